/-
  Some texts as one: WfPlain, FmOnce, FmWhere, FmOnly, PartsPlain, FmHas, FmBefI.
-/
import Derived.Test.YtflkbehbenlhaaaZD
import Derived.Test.YtflkbehbenlhaaaZF
/-
  Lists of operations that are histories, told by pairs; what keeps them so.
-/
namespace Go.Proofs.Ytflkbehbenlhaaa
set_option linter.unusedVariables false

def hRel (a b : OpV) : Prop := a.call < b.call ∧ (a.done = true → a.ret ≠ b.call ∧ (b.done = true → b.ret ≠ a.ret)) ∧ (a.p = b.p → a.done = true ∧ a.ret ≤ b.call)
structure WFH (l : List OpV) : Prop where
  len : l.length ≤ 300
  wf : ∀ o ∈ l, wfB o = true
  rel : l.Pairwise hRel

theorem WFH.pair {l : List OpV} (h : WFH l) {i j : Nat} (hij : i < j) (hj : j < l.length) : hRel (nth l i) (nth l j) := by
  rw [nth_eq hj, nth_eq (show i < l.length by omega)]
  exact List.pairwise_iff_getElem.1 h.rel i j (by omega) hj hij
theorem WFH.at {l : List OpV} (h : WFH l) {i : Nat} (hi : i < l.length) : wfB (nth l i) = true := h.wf _ (nth_mem hi)
theorem wfB_call {o : OpV} (h : wfB o = true) : o.call < o.ret := by
  simp only [wfB, Bool.and_eq_true, decide_eq_true_eq] at h
  omega
theorem WFH.err {l : List OpV} (h : WFH l) {k : Nat} (hk : k < l.length) : errK l k = 0 := by
  unfold errK
  rw [if_neg (by rw [h.at hk]; decide)]
  rw [if_neg (fun e => by have := (h.pair (show k - 1 < k by omega) hk).1; omega)]
  rw [if_neg (fun e => ?_), if_neg (fun e => ?_)]
  · obtain ⟨e1, e2⟩ := e
    obtain ⟨q, hq⟩ := Option.isSome_iff_exists.1 e1
    rw [hq] at e2
    simp only [Option.getD_some] at e2
    obtain ⟨m, hm, hmq, hmp⟩ := lastOf_some hq
    subst hmq
    obtain ⟨h1, h2⟩ := (h.pair hm hk).2.2 hmp
    rcases e2 with e2 | e2
    · rw [h1] at e2; cases e2
    · omega
  · have ret : ∀ x, retB l k x = true → ∃ m, m < k ∧ (nth l m).done = true ∧ (nth l m).ret = x := fun x hx => by
      unfold retB at hx
      obtain ⟨m, h1, _, h3⟩ := any_take hx
      simp only [Bool.and_eq_true, beq_iff_eq] at h3
      exact ⟨m, h1, h3⟩
    simp only [Bool.or_eq_true, Bool.and_eq_true] at e
    rcases e with e | ⟨hd, e | e⟩
    · obtain ⟨m, h1, h2, h3⟩ := ret _ e
      exact ((h.pair h1 hk).2.1 h2).1 h3
    · obtain ⟨m, h1, h2, h3⟩ := ret _ e
      exact ((h.pair h1 hk).2.1 h2).2 hd h3.symm
    · unfold callB at e
      obtain ⟨j, _, hj, h3⟩ := any_take e
      simp only [beq_iff_eq] at h3
      have hc := wfB_call (h.at hk)
      rcases Nat.lt_trichotomy j k with h4 | h4 | h4
      · have := (h.pair h4 hk).1; omega
      · subst h4; omega
      · exact ((h.pair h4 hj).2.1 hd).1 h3.symm
theorem WFH.check {l : List OpV} (h : WFH l) : hCheck l = 0 := by
  unfold hCheck
  rw [if_neg (by have := h.len; omega)]
  exact hCheckFrom_zero _ _ fun j _ hj => h.err (by omega)

theorem WFH.sub {l l' : List OpV} (h : WFH l) (hs : l'.Sublist l) : WFH l' := ⟨Nat.le_trans hs.length_le h.len, fun o ho => h.wf o (hs.subset ho), h.rel.sublist hs⟩
theorem WFH.filter {l : List OpV} (h : WFH l) (f : OpV → Bool) : WFH (l.filter f) := h.sub List.filter_sublist
theorem WFH.map {l : List OpV} (h : WFH l) (f : OpV → OpV) (hf : ∀ o, (f o).p = o.p ∧ (f o).k = o.k ∧ (f o).call = o.call ∧ (f o).ret = o.ret ∧ (f o).done = o.done ∧ (o.res = 0 → (f o).res = 0)) : WFH (l.map f) := by
  refine ⟨by rw [List.length_map]; exact h.len, fun o ho => ?_, ?_⟩
  · obtain ⟨x, hx, rfl⟩ := List.mem_map.1 ho
    have hw := h.wf x hx
    obtain ⟨h1, h2, h3, h4, h5, h6⟩ := hf x
    simp only [wfB, Bool.and_eq_true, Bool.or_eq_true, decide_eq_true_eq] at hw ⊢
    rw [h1, h2, h3, h4, h5]
    exact ⟨hw.1, hw.2.imp id h6⟩
  · rw [List.pairwise_map]
    refine h.rel.imp fun {a b} hab => ?_
    obtain ⟨a1, _, a3, a4, a5, _⟩ := hf a
    obtain ⟨b1, _, b3, b4, b5, _⟩ := hf b
    unfold hRel at hab ⊢
    rw [a1, a3, a4, a5, b1, b3, b4, b5]
    exact hab
theorem WFH.set {l : List OpV} (h : WFH l) {i : Nat} (hi : i < l.length) {o : OpV} (hf : o.p = (nth l i).p ∧ o.k = (nth l i).k ∧ o.call = (nth l i).call ∧ o.ret = (nth l i).ret ∧ o.done = (nth l i).done ∧ ((nth l i).done = false → o.res = (nth l i).res)) : WFH (l.set i o) := by
  obtain ⟨h1, h2, h3, h4, h5, h6⟩ := hf
  have hw := h.at hi
  refine ⟨by simpa using h.len, fun x hx => ?_, ?_⟩
  · rcases List.mem_or_eq_of_mem_set hx with hx | rfl
    · exact h.wf x hx
    · simp only [wfB, Bool.and_eq_true, Bool.or_eq_true, decide_eq_true_eq] at hw ⊢
      rw [h1, h2, h3, h4, h5]
      refine ⟨hw.1, ?_⟩
      cases hd : (nth l i).done with
      | true => exact .inl rfl
      | false => right; rw [h6 hd]; rw [hd] at hw; simpa using hw.2
  · have key : ∀ j, j < l.length → (nth (l.set i o) j).p = (nth l j).p ∧ (nth (l.set i o) j).call = (nth l j).call ∧ (nth (l.set i o) j).ret = (nth l j).ret ∧ (nth (l.set i o) j).done = (nth l j).done := fun j hj => by
      by_cases e : i = j
      · subst e; rw [nth_set_same hi]; exact ⟨h1, h3, h4, h5⟩
      · rw [nth_set_other e]; exact ⟨rfl, rfl, rfl, rfl⟩
    rw [List.pairwise_iff_getElem]
    intro a b ha hb hab
    have ha' : a < l.length := by simpa using ha
    have hb' : b < l.length := by simpa using hb
    have hp := h.pair hab hb'
    rw [← nth_eq ha, ← nth_eq hb]
    obtain ⟨a1, a2, a3, a4⟩ := key a ha'
    obtain ⟨b1, b2, b3, b4⟩ := key b hb'
    unfold hRel at hp ⊢
    rw [a1, a2, a3, a4, b1, b2, b3, b4]
    exact hp
end Go.Proofs.Ytflkbehbenlhaaa
/-
  The small functions of layers 01, 21 and 24, at plain values.
-/
namespace Go.Proofs.Ytflkbehbenlhaaa
set_option linter.unusedVariables false
open Go.RowKit

theorem ints_spec (l : List Int) (hl : l.length ≤ 1000000000) : Spec Try.prog 106 [.list 1 (l.map intf), .int .i64 l.length] (.ow 3 1) (.list 1 (l.map intf)) := by
  refine Spec.of_body (c := (cxOf Try.prog tyAt_ok mixed_ok 14)) ⟨Try.func106, rfl, Try.ntmps106, by kernel_rfl⟩ (by simp [FV.hand]) (by exact Nat.le_of_ble_eq_true rfl) rfl ?_
  change FW _ _ _ ⟨[(0, .list 1 (l.map intf)), (1, .int .i64 l.length)], []⟩
  (repeat (first | refine FW.seq ?_ | refine FW.region ?_ | refine RunN.nil ?_ | refine rn_assign rfl rfl rfl ?_ | refine rn_move rfl rfl rfl ?_ | refine rn_lenList rfl rfl (by first | exact List.length_map _ | exact (List.length_map _).symm | exact List.length_replicate | rfl | (simp; done) | omega | (simp; omega)) rfl rfl ?_ | refine rn_min rfl rfl rfl rfl ?_ | refine rn_sliceL rfl rfl rfl rfl (by first | exact LoR.none | exact LoR.some rfl | exact LoR.lit rfl (by first | rfl | exact (Int.toNat_of_nonneg (by omega)).symm)) (by first | exact HiR.none | exact HiR.some rfl | exact HiR.lit rfl (by first | rfl | exact (Int.toNat_of_nonneg (by omega)).symm)) (by first | omega | (simp; omega) | (simp; done)) (by first | omega | (simp; omega) | (simp; done)) rfl rfl ?_ | refine rn_appN rfl rfl rfl rfl (by decide) (by first | exact SrcR.own rfl rfl (by decide) (by first | exact List.length_map _ | exact (List.length_map _).symm | exact List.length_replicate | rfl | (simp; done) | omega | (simp; omega)) | exact SrcR.list rfl | exact SrcR.nil rfl | exact SrcR.part rfl rfl (by decide)) (by first | omega | (simp; omega) | (simp; done)) (by first | omega | (simp; omega) | (simp; done)) rfl rfl rfl ?_))
  exact FW.ret ⟨.inl rfl, ret_ow rfl rfl rfl rfl (by decide) (by simp [← List.map_take]) (intT.flatsM l)⟩

theorem put_spec (l : List Int) (i : Nat) (v : Int) (hl : l.length ≤ 1000000000) (hi : i < l.length) : Spec Try.prog 87 [.list 1 (l.map intf), .int .i64 i, .int .i64 v] (.ow 3 1) (.list 1 ((l.set i v).map intf)) := by
  refine Spec.of_body (c := (cxOf Try.prog tyAt_ok mixed_ok 17)) ⟨Try.func87, rfl, Try.ntmps87, by kernel_rfl⟩ (by simp [FV.hand]) (by exact Nat.le_of_ble_eq_true rfl) rfl ?_
  change FW _ _ _ ⟨[(0, .list 1 (l.map intf)), (1, .int .i64 i), (2, .int .i64 v)], []⟩
  (repeat (first | refine FW.seq ?_ | refine FW.region ?_ | refine RunN.nil ?_ | refine rn_assign rfl rfl rfl ?_ | refine rn_move rfl rfl rfl ?_ | refine rn_lenList rfl rfl (by first | exact List.length_map _ | exact (List.length_map _).symm | exact List.length_replicate | rfl | (simp; done) | omega | (simp; omega)) rfl rfl ?_))
  refine rn_callO (ints_spec l hl) (by repeat (first | exact ArgsR.nil | refine ArgsR.cons (by first | exact ArgR.plain rfl rfl) ?_)) (List.length_map _) rfl rfl rfl ?_
  (repeat (first | refine FW.seq ?_ | refine FW.region ?_ | refine RunN.nil ?_ | refine rn_assign rfl rfl rfl ?_ | refine rn_move rfl rfl rfl ?_ | refine rn_indexO rfl rfl (by first | rfl | exact (Int.toNat_of_nonneg (by omega)).symm) rfl rfl rfl (by decide) rfl (by first | omega | (simp; omega) | (simp; done)) rfl rfl ?_ | refine rn_storeR rfl rfl rfl rfl rfl rfl (by first | omega | (simp; omega) | (simp; done)) (by first | exact getD_map (by omega) | rfl) rfl rfl rfl ?_))
  exact FW.ret ⟨.inl rfl, ret_ow rfl rfl rfl (by simp) (by decide) (by rw [List.map_set]; rfl) (intT.flatsM _)⟩

theorem sameInts_spec (a b : List Int) (ha : a.length ≤ 1000000000) (hb : b.length ≤ 1000000000) : Spec Try.prog 16 [.list 1 (a.map intf), .list 1 (b.map intf)] .fr (.bool (decide (a = b))) := by
  refine Spec.of_body (c := (cxOf Try.prog tyAt_ok mixed_ok 26)) ⟨Try.func16, rfl, Try.ntmps16, by kernel_rfl⟩ (by simp [FV.hand]) (by exact Nat.le_of_ble_eq_true rfl) rfl ?_
  change FW _ _ _ ⟨[(0, .list 1 (a.map intf)), (1, .list 1 (b.map intf))], []⟩
  (repeat (first | refine FW.seq ?_ | refine FW.region ?_ | refine RunN.nil ?_ | refine rn_assign rfl rfl rfl ?_ | refine rn_move rfl rfl rfl ?_ | refine rn_lenList rfl rfl (by first | exact List.length_map _ | exact (List.length_map _).symm | exact List.length_replicate | rfl | (simp; done) | omega | (simp; omega)) rfl rfl ?_ | refine rn_neq rfl rfl rfl rfl ?_))
  refine FW.cond rfl (fun h => ?_) (fun h => ?_)
  · (repeat (first | refine FW.seq ?_ | refine FW.region ?_ | refine RunN.nil ?_ | refine rn_assign rfl rfl rfl ?_))
    refine FW.ret ⟨.inl rfl, ret_flat rfl rfl ?_ rfl⟩
    have : a ≠ b := by rintro rfl; simp at h
    simp [this]; rfl
  · have hlen : a.length = b.length := by simp at h; omega
    (repeat (first | refine FW.seq ?_ | refine FW.region ?_ | refine FW.block ?_ | refine FW.skip ?_ | refine RunN.nil ?_ | refine rn_assign rfl rfl rfl ?_))
    refine FW.loop (fun k : Nat => ⟨[(0, .list 1 (a.map intf)), (1, .list 1 (b.map intf)), (5, .int .i64 k)], []⟩) (fun k => k ≤ a.length ∧ a.take k = b.take k) (fun k => a.length - k) 0 (by simp) (FLe.conv [] (by simp) (by simp) rfl (by repeat (first | exact GhOk.nil | refine GhOk.low rfl ?_ | refine GhOk.same rfl ?_ | refine GhOk.bump (Nat.lt_succ_self _) ?_)) (by repeat (first | exact EntsOk.nil)) (by repeat (first | exact SlC.nil | refine SlC.cons (.plain rfl rfl (by first | rfl | (simp; done) | (congr 1; omega) | (simp; omega) | (simp [List.take_of_length_le]; done) | (refine congrArg (FV.int .i64) ?_; omega))) ?_))) ?_
    rintro k ⟨hk, hab⟩
    (repeat (first | refine FW.seq ?_ | refine FW.region ?_ | refine RunN.nil ?_ | refine rn_move rfl rfl rfl ?_ | refine rn_lenList rfl rfl (by first | exact List.length_map _ | exact (List.length_map _).symm | exact List.length_replicate | rfl | (simp; done) | omega | (simp; omega)) rfl rfl ?_ | refine rn_lss rfl rfl rfl rfl ?_))
    refine FW.cond rfl (fun h => ?_) (fun h => ?_)
    · have hlt : k < a.length := by simpa using h
      clear h
      (repeat (first | refine FW.seq ?_ | refine FW.block ?_ | refine FW.skip ?_ | refine FW.draw ?_ | refine RunD.nil ?_ | refine rd_move rfl rfl rfl ?_ | refine rd_neq rfl rfl rfl rfl ?_ | refine rd_indexL rfl rfl (by first | rfl | exact (Int.toNat_of_nonneg (by omega)).symm) rfl rfl rfl (by first | omega | (simp; omega) | (simp; done)) rfl rfl ?_ | refine rd_loadE rfl rfl rfl (by first | omega | (simp; omega) | (simp; done)) (by first | exact getD_map (by omega) | rfl) rfl rfl rfl rfl ?_))
      refine ⟨by kernel_rfl, ?_⟩
      refine FW.cond rfl (fun h => ?_) (fun h => ?_)
      · (repeat (first | refine FW.seq ?_ | refine FW.region ?_ | refine RunN.nil ?_ | refine rn_assign rfl rfl rfl ?_))
        refine FW.ret ⟨.inl rfl, ret_flat rfl rfl ?_ rfl⟩
        have : a ≠ b := by rintro rfl; simp at h
        simp [this]; rfl
      · (repeat (first | refine FW.region ?_ | refine FW.skip ?_ | refine RunN.nil ?_ | refine rn_assign rfl rfl rfl ?_ | refine rn_move rfl rfl rfl ?_ | refine rn_add rfl rfl (by omega) rfl rfl ?_))
        refine ⟨k + 1, ⟨by omega, ?_⟩, by omega, (FLe.conv [] (by simp) (by simp) rfl (by repeat (first | exact GhOk.nil | refine GhOk.low rfl ?_ | refine GhOk.same rfl ?_ | refine GhOk.bump (Nat.lt_succ_self _) ?_)) (by repeat (first | exact EntsOk.nil)) (by repeat (first | exact SlC.nil | refine SlC.cons (.plain rfl rfl (by first | rfl | (simp; done) | (congr 1; omega) | (simp; omega) | (simp [List.take_of_length_le]; done) | (refine congrArg (FV.int .i64) ?_; omega))) ?_)))⟩
        have h1 : nth a k = nth b k := by simpa using h
        rw [List.take_succ_eq_append_getElem hlt, List.take_succ_eq_append_getElem (by omega), hab, ← nth_eq hlt, ← nth_eq (by omega), h1]
    · (repeat (first | refine FW.seq ?_ | refine FW.region ?_ | refine FW.exit ?_ | refine RunN.nil ?_ | refine rn_assign rfl rfl rfl ?_))
      refine FW.ret ⟨.inl rfl, ret_flat rfl rfl ?_ rfl⟩
      have : k = a.length := by simp at h; omega
      subst this
      have : a = b := by rw [List.take_of_length_le (Nat.le_refl _), List.take_of_length_le (by omega)] at hab; exact hab
      simp [this]; rfl

def bef (l : List OpV) (i k : Nat) : Bool := (nth l i).done && decide ((nth l i).ret < (nth l k).call)
set_option maxHeartbeats 1000000 in
theorem hBefore_spec (l : List OpV) (i k : Nat) (hi : i < l.length) (hk : k < l.length) : Spec Try.prog 19 [.list 8 (l.map OpV.fv), .int .i64 i, .int .i64 k] .fr (.bool (bef l i k)) := by
  refine Spec.of_body (c := (cxOf Try.prog tyAt_ok mixed_ok 37)) ⟨Try.func19, rfl, Try.ntmps19, by kernel_rfl⟩ (by simp [FV.hand]) (by exact Nat.le_of_ble_eq_true rfl) rfl ?_
  change FW _ _ _ ⟨[(0, .list 8 (l.map OpV.fv)), (1, .int .i64 i), (2, .int .i64 k)], []⟩
  (repeat (first | refine FW.seq ?_ | refine FW.region ?_ | refine RunN.nil ?_ | refine rn_assign rfl rfl rfl ?_ | refine rn_move rfl rfl rfl ?_ | refine rn_min rfl rfl rfl rfl ?_ | refine rn_lss rfl rfl rfl rfl ?_))
  refine rn_case (fun h => ?_) (fun h => ?_)
  · exfalso; simp at h; omega
  · (repeat (first | refine RunN.nil ?_ | refine rn_pickF rfl rfl rfl rfl ?_ | refine rn_move rfl rfl ⟨_, _, rfl, rfl, rfl⟩ ?_ | refine rn_max rfl rfl rfl ⟨_, _, rfl, rfl, rfl⟩ ?_ | refine rn_lenList rfl rfl (by first | exact List.length_map _ | exact (List.length_map _).symm | exact List.length_replicate | rfl | (simp; done) | omega | (simp; omega)) rfl ⟨_, _, rfl, rfl, rfl⟩ ?_ | refine rn_geq rfl rfl rfl ⟨_, _, rfl, rfl, rfl⟩ ?_))
    refine FW.cond rfl (fun h => ?_) (fun h => ?_)
    · exfalso; simp at h; omega
    (repeat (first | refine FW.seq ?_ | refine FW.skip ?_ | refine FW.draw ?_ | refine rd_move rfl rfl rfl ?_ | refine rd_indexL rfl rfl (by first | rfl | exact (Int.toNat_of_nonneg (by omega)).symm) rfl rfl rfl (by first | omega | (simp; omega) | (simp; done)) rfl rfl ?_ | refine rd_fieldE rfl rfl rfl rfl rfl rfl rfl ?_ | refine rd_loadE rfl rfl rfl (by first | omega | (simp; omega) | (simp; done)) (by first | exact getD_map (by omega) | rfl) rfl rfl rfl rfl ?_))
    refine rd_case (fun h => ?_) (fun h => ?_)
    · (repeat (first | refine RunD.nil ?_ | refine rd_assign rfl rfl rfl ?_ | refine rd_pickT rfl rfl rfl rfl ?_ | refine rd_move rfl rfl ⟨_, _, rfl, rfl, rfl⟩ ?_ | refine rd_indexL rfl rfl (by first | rfl | exact (Int.toNat_of_nonneg (by omega)).symm) rfl rfl rfl (by first | omega | (simp; omega) | (simp; done)) rfl ⟨_, _, rfl, rfl, rfl⟩ ?_ | refine rd_fieldE rfl rfl rfl rfl rfl rfl ⟨_, _, rfl, rfl, rfl⟩ ?_ | refine rd_loadE rfl rfl rfl (by first | omega | (simp; omega) | (simp; done)) (by first | exact getD_map (by omega) | rfl) rfl rfl rfl ⟨_, _, rfl, rfl, rfl⟩ ?_ | refine rd_lss rfl rfl rfl ⟨_, _, rfl, rfl, rfl⟩ ?_))
      refine ⟨by kernel_rfl, ?_⟩
      skip
      refine FW.ret ⟨.inl rfl, ret_flat rfl rfl ?_ rfl⟩
      simp [bef, h]; rfl
    · (repeat (first | refine RunD.nil ?_ | refine rd_assign rfl rfl rfl ?_ | refine rd_pickF rfl rfl rfl rfl ?_ | refine rd_skip rfl rfl ⟨_, _, rfl, rfl, rfl⟩ ?_))
      refine ⟨by kernel_rfl, ?_⟩
      skip
      refine FW.ret ⟨.inl rfl, ret_flat rfl rfl ?_ rfl⟩
      simp [bef, h]; rfl

def isDel (o : OpV) : Bool := decide (o.k = 4) && o.done && decide (o.res ≠ 0)
set_option maxHeartbeats 1000000 in
theorem delivers_spec (o : OpV) : Spec Try.prog 62 [.agg o.fv] .fr (.tup [.agg [.int .i64 o.key, .int .i64 o.res], .bool (isDel o)]) := by
  refine Spec.of_body (c := (cxOf Try.prog tyAt_ok mixed_ok 21)) ⟨Try.func62, rfl, Try.ntmps62, by kernel_rfl⟩ (by simp [FV.hand]) (by exact Nat.le_of_ble_eq_true rfl) rfl ?_
  change FW _ _ _ ⟨[(0, .agg o.fv)], []⟩
  (repeat (first | refine FW.seq ?_ | refine FW.region ?_ | refine RunN.nil ?_ | refine rn_boxA rfl rfl rfl rfl rfl rfl rfl ?_ | refine rn_alloc rfl rfl rfl rfl rfl rfl rfl ?_ | refine rn_assign rfl rfl rfl ?_ | refine FillK.nil ?_ | refine FillK.one rfl rfl rfl rfl rfl ?_ | refine FW.draw ?_ | refine rd_fieldP rfl rfl rfl rfl rfl rfl (by decide) rfl rfl ?_ | refine rd_loadP rfl rfl rfl rfl rfl (by first | omega | (simp; omega) | (simp; done)) (by first | exact getD_map (by omega) | rfl) rfl rfl rfl rfl ?_ | refine rd_buildK rfl rfl rfl rfl ?_ | refine rd_eql rfl rfl rfl rfl ?_ | refine rd_move rfl rfl rfl ?_ | refine FillK.nil ?_ | refine FillK.one rfl rfl rfl rfl rfl ?_))
  refine rd_case (fun h1 => ?_) (fun h1 => ?_)
  · (repeat (first | refine rd_move rfl rfl rfl ?_ | refine rd_pickT rfl rfl rfl rfl ?_ | refine rd_fieldP rfl rfl rfl rfl rfl rfl (by decide) rfl ⟨_, _, rfl, rfl, rfl⟩ ?_ | refine rd_loadP rfl rfl rfl rfl rfl (by first | omega | (simp; omega) | (simp; done)) (by first | exact getD_map (by omega) | rfl) rfl rfl rfl ⟨_, _, rfl, rfl, rfl⟩ ?_))
    refine rd_case (fun h2 => ?_) (fun h2 => ?_)
    · (repeat (first | refine RunD.nil ?_ | refine rd_assign rfl rfl rfl ?_ | refine rd_pickT rfl rfl rfl rfl ?_ | refine rd_storeVA rfl rfl rfl rfl rfl rfl rfl rfl rfl ?_ | refine rd_fieldP rfl rfl rfl rfl rfl rfl (by decide) rfl ⟨_, _, rfl, rfl, rfl⟩ ?_ | refine rd_loadP rfl rfl rfl rfl rfl (by first | omega | (simp; omega) | (simp; done)) (by first | exact getD_map (by omega) | rfl) rfl rfl rfl ⟨_, _, rfl, rfl, rfl⟩ ?_ | refine rd_neq rfl rfl rfl ⟨_, _, rfl, rfl, rfl⟩ ?_))
      refine ⟨by kernel_rfl, ?_⟩
      skip
      refine FW.ret ⟨.inl rfl, .flat (.cons (resv_cell rfl rfl rfl rfl rfl rfl (by decide)) (.cons (.tmp 3 rfl rfl) .nil)) ?_ rfl⟩
      simp at h1 h2
      simp [isDel, h1, h2, resOf]; rfl
    · (repeat (first | refine RunD.nil ?_ | refine rd_assign rfl rfl rfl ?_ | refine rd_pickF rfl rfl rfl rfl ?_ | refine rd_storeVA rfl rfl rfl rfl rfl rfl rfl rfl rfl ?_ | refine rd_skip rfl rfl ⟨_, _, rfl, rfl, rfl⟩ ?_))
      refine ⟨by kernel_rfl, ?_⟩
      skip
      refine FW.ret ⟨.inl rfl, .flat (.cons (resv_cell rfl rfl rfl rfl rfl rfl (by decide)) (.cons (.tmp 3 rfl rfl) .nil)) ?_ rfl⟩
      simp at h1 h2
      simp [isDel, h1, h2, resOf]; rfl
  · (repeat (first | refine RunD.nil ?_ | refine rd_assign rfl rfl rfl ?_ | refine rd_move rfl rfl rfl ?_ | refine rd_pickF rfl rfl rfl rfl ?_ | refine rd_storeVA rfl rfl rfl rfl rfl rfl rfl rfl rfl ?_ | refine rd_skip rfl rfl ⟨_, _, rfl, rfl, rfl⟩ ?_))
    refine ⟨by kernel_rfl, ?_⟩
    skip
    refine FW.ret ⟨.inl rfl, .flat (.cons (resv_cell rfl rfl rfl rfl rfl rfl (by decide)) (.cons (.tmp 3 rfl rfl) .nil)) ?_ rfl⟩
    simp at h1
    simp [isDel, h1, resOf]; rfl
end Go.Proofs.Ytflkbehbenlhaaa
/-
  The parts of a history: where, OfKey, OfProcess, and the reference's, at plain values.
-/
namespace Go.Proofs.Ytflkbehbenlhaaa
set_option linter.unusedVariables false
open Go.RowKit

def whereTo (p : OpV → Bool) (l : List OpV) (i : Nat) : List Int := ((List.range i).filter fun j => p (nth l j)).map fun (j : Nat) => (j : Int)
theorem whereTo_succ (p : OpV → Bool) (l : List OpV) (i : Nat) : whereTo p l (i + 1) = whereTo p l i ++ (if p (nth l i) = true then [(i : Int)] else []) := by
  unfold whereTo
  rw [List.range_succ, List.filter_append, List.map_append]
  congr 1
  by_cases h : p (nth l i) = true <;> simp [h]
theorem whereTo_len (p : OpV → Bool) (l : List OpV) (i : Nat) : (whereTo p l i).length ≤ i := by
  unfold whereTo
  rw [List.length_map]
  exact Nat.le_trans (List.length_filter_le _ _) (by simp)
def byKey (key : Int) (o : OpV) : Bool := decide (o.key = key)
def byProc (p : Int) (o : OpV) : Bool := decide (o.p = p)

theorem ofKey1_spec (key : Int) (o : OpV) : Spec Try.prog 55 ([.agg o.fv] ++ [.eptr 1 [[.int .i64 key]] 0 0]) .fr (.bool (byKey key o)) := by
  refine Spec.of_body (c := (cxOf Try.prog tyAt_ok mixed_ok 8)) ⟨Try.func55, rfl, Try.ntmps55, by kernel_rfl⟩ (by simp [FV.hand]) (by exact Nat.le_of_ble_eq_true rfl) rfl ?_
  change FW _ _ _ ⟨[(0, .agg o.fv), (1, .eptr 1 [[.int .i64 key]] 0 0)], []⟩
  (repeat (first | refine FW.seq ?_ | refine FW.region ?_ | refine RunN.nil ?_ | refine rn_boxA rfl rfl rfl rfl rfl rfl rfl ?_ | refine rn_assign rfl rfl rfl ?_ | refine rn_fieldP rfl rfl rfl rfl rfl rfl (by decide) rfl rfl ?_ | refine rn_loadE rfl rfl rfl (by first | omega | (simp; omega) | (simp; done)) (by first | exact getD_map (by omega) | rfl) rfl rfl rfl rfl ?_ | refine rn_loadP rfl rfl rfl rfl rfl (by first | omega | (simp; omega) | (simp; done)) (by first | exact getD_map (by omega) | rfl) rfl rfl rfl rfl ?_ | refine rn_eql rfl rfl rfl rfl ?_))
  exact FW.ret ⟨.inl rfl, ret_flat rfl rfl rfl rfl⟩
theorem ofProcess1_spec (p : Int) (o : OpV) : Spec Try.prog 56 ([.agg o.fv] ++ [.eptr 1 [[.int .i64 p]] 0 0]) .fr (.bool (byProc p o)) := by
  refine Spec.of_body (c := (cxOf Try.prog tyAt_ok mixed_ok 8)) ⟨Try.func56, rfl, Try.ntmps56, by kernel_rfl⟩ (by simp [FV.hand]) (by exact Nat.le_of_ble_eq_true rfl) rfl ?_
  change FW _ _ _ ⟨[(0, .agg o.fv), (1, .eptr 1 [[.int .i64 p]] 0 0)], []⟩
  (repeat (first | refine FW.seq ?_ | refine FW.region ?_ | refine RunN.nil ?_ | refine rn_boxA rfl rfl rfl rfl rfl rfl rfl ?_ | refine rn_assign rfl rfl rfl ?_ | refine rn_fieldP rfl rfl rfl rfl rfl rfl (by decide) rfl rfl ?_ | refine rn_loadE rfl rfl rfl (by first | omega | (simp; omega) | (simp; done)) (by first | exact getD_map (by omega) | rfl) rfl rfl rfl rfl ?_ | refine rn_loadP rfl rfl rfl rfl rfl (by first | omega | (simp; omega) | (simp; done)) (by first | exact getD_map (by omega) | rfl) rfl rfl rfl rfl ?_ | refine rn_eql rfl rfl rfl rfl ?_))
  exact FW.ret ⟨.inl rfl, ret_flat rfl rfl rfl rfl⟩

set_option maxHeartbeats 4000000 in
theorem where_spec (l : List OpV) (cf : Nat) (caps : List FV) (p : OpV → Bool) (hl : l.length ≤ 1000000000) (hp : ∀ o : OpV, Spec (Try.prog) cf ([.agg o.fv] ++ caps) .fr (.bool (p o))) :
    Spec Try.prog 54 [.list 8 (l.map OpV.fv), .fn cf caps] (.ow 3 1) (.list 1 ((whereTo p l l.length).map intf)) := by
  refine Spec.of_body (c := (cxOf Try.prog tyAt_ok mixed_ok 24)) ⟨Try.func54, rfl, Try.ntmps54, by kernel_rfl⟩ (by simp [FV.hand]) (by exact Nat.le_of_ble_eq_true rfl) rfl ?_
  change FW _ _ _ ⟨[(0, .list 8 (l.map OpV.fv)), (1, .fn cf caps)], []⟩
  (repeat (first | refine FW.seq ?_ | refine FW.region ?_ | refine FW.block ?_ | refine RunN.nil ?_ | refine rn_assign rfl rfl rfl ?_ | refine rn_move rfl rfl rfl ?_ | refine rn_lenList rfl rfl (by first | exact List.length_map _ | exact (List.length_map _).symm | exact List.length_replicate | rfl | (simp; done) | omega | (simp; omega)) rfl rfl ?_))
  refine FW.loop (fun i : Nat => ⟨[(1, .fn cf caps), (5, .own 100 0 0 (whereTo p l i).length), (8, .list 8 (l.map OpV.fv)), (9, .int .i64 l.length), (10, .int .i64 i)], [(100, ⟨0, .own, 3, 1, (whereTo p l i).map intf⟩)]⟩) (fun i => i ≤ l.length) (fun i => l.length - i) 0 (Nat.zero_le _)
    (FLe.conv [⟨100, none, 0, ⟨0, .own, 3, 1, []⟩⟩] (by simp) (by simp) rfl (by repeat (first | exact GhOk.nil | refine GhOk.low rfl ?_ | refine GhOk.same rfl ?_ | refine GhOk.bump (Nat.lt_succ_self _) ?_)) (by repeat (first | exact EntsOk.nil | refine EntsOk.new ?_)) (by repeat (first | exact SlC.nil | refine SlC.cons (.plain rfl rfl (by first | rfl | (simp; done) | (congr 1; omega) | (simp; omega) | (simp [List.take_of_length_le]; done) | (refine congrArg (FV.int .i64) ?_; omega))) ?_ | refine SlC.cons (.nil rfl (.head _) rfl) ?_))) ?_
  intro i hi
  have hwl := whereTo_len p l i
  (repeat (first | refine FW.seq ?_ | refine FW.region ?_ | refine RunN.nil ?_ | refine rn_lss rfl rfl rfl rfl ?_))
  refine FW.cond rfl (fun h => ?_) (fun h => ?_)
  · have hlt : i < l.length := by simpa using h
    clear h
    (repeat (first | refine FW.seq ?_ | refine FW.region ?_ | refine FW.block ?_ | refine FW.skip ?_ | refine RunN.nil ?_ | refine rn_assign rfl rfl rfl ?_ | refine rn_move rfl rfl rfl ?_ | refine rn_indexL rfl rfl (by first | rfl | exact (Int.toNat_of_nonneg (by omega)).symm) rfl rfl rfl (by first | omega | (simp; omega) | (simp; done)) rfl rfl ?_ | refine rn_loadEA rfl rfl rfl (by decide) (by first | omega | (simp; omega) | (simp; done)) (by first | exact getD_map (by omega) | rfl) rfl rfl rfl ?_ | refine rn_loadPA rfl rfl rfl (by decide) rfl rfl (by first | omega | (simp; omega) | (simp; done)) (by first | exact getD_map (by omega) | rfl) rfl rfl rfl ?_ | refine rn_alloc rfl rfl rfl rfl rfl rfl rfl ?_ | refine rn_storeVA rfl rfl rfl rfl rfl rfl rfl rfl rfl ?_))
    refine rn_callV rfl (hp (nth l i)) (by repeat (first | exact ArgsR.nil | refine ArgsR.cons (by first | exact ArgR.plain rfl rfl) ?_)) rfl rfl ?_
    (repeat (first | refine RunN.nil ?_))
    refine FW.cond rfl (fun h => ?_) (fun h => ?_)
    · (repeat (first | refine FW.region ?_ | refine RunN.nil ?_ | refine rn_assign rfl rfl rfl ?_ | refine rn_move rfl rfl rfl ?_ | refine rn_buildS1 rfl rfl rfl rfl rfl rfl rfl rfl ?_ | refine rn_appO rfl rfl (by first | exact List.length_map _ | exact (List.length_map _).symm | exact List.length_replicate | rfl | (simp; done) | omega | (simp; omega)) rfl rfl rfl (by decide) (by first | exact SrcR.own rfl rfl (by decide) (by first | exact List.length_map _ | exact (List.length_map _).symm | exact List.length_replicate | rfl | (simp; done) | omega | (simp; omega)) | exact SrcR.list rfl | exact SrcR.nil rfl | exact SrcR.part rfl rfl (by decide)) (by first | omega | (simp; omega) | (simp; done)) (by first | omega | (simp; omega) | (simp; done)) rfl rfl rfl ?_ | refine rn_add rfl rfl (by omega) rfl rfl ?_))
      refine ⟨i + 1, by omega, by omega, ?_⟩
      rw [whereTo_succ, if_pos h, List.map_append]
      exact (FLe.conv [⟨100, some 21, 1, ⟨0, .own, 3, 1, (whereTo p l i).map intf ++ [(i : Int)].map intf⟩⟩] (by simp) (by simp) rfl (by repeat (first | exact GhOk.nil | refine GhOk.low rfl ?_ | refine GhOk.same rfl ?_ | refine GhOk.bump (Nat.lt_succ_self _) ?_)) (by repeat (first | exact EntsOk.nil | refine EntsOk.old rfl (by decide) (by first | rfl | (simp; done) | (congr 1; omega) | (simp; omega) | (simp [List.take_of_length_le]; done) | (refine congrArg (FV.int .i64) ?_; omega)) ?_)) (by repeat (first | exact SlC.nil | refine SlC.cons (.plain rfl rfl (by first | rfl | (simp; done) | (congr 1; omega) | (simp; omega) | (simp [List.take_of_length_le]; done) | (refine congrArg (FV.int .i64) ?_; omega))) ?_ | refine SlC.cons (.own rfl (.head _) rfl (by first | rfl | (simp; done) | (congr 1; omega) | (simp; omega) | (simp [List.take_of_length_le]; done) | (refine congrArg (FV.int .i64) ?_; omega))) ?_)))
    · (repeat (first | refine FW.region ?_ | refine FW.skip ?_ | refine RunN.nil ?_ | refine rn_move rfl rfl rfl ?_ | refine rn_add rfl rfl (by omega) rfl rfl ?_))
      refine ⟨i + 1, by omega, by omega, ?_⟩
      rw [whereTo_succ, if_neg (by rw [h]; decide), List.append_nil]
      exact (FLe.conv [⟨100, some 100, 0, ⟨0, .own, 3, 1, (whereTo p l i).map intf⟩⟩] (by simp) (by simp) rfl (by repeat (first | exact GhOk.nil | refine GhOk.low rfl ?_ | refine GhOk.same rfl ?_ | refine GhOk.bump (Nat.lt_succ_self _) ?_)) (by repeat (first | exact EntsOk.nil | refine EntsOk.old rfl (by decide) (by first | rfl | (simp; done) | (congr 1; omega) | (simp; omega) | (simp [List.take_of_length_le]; done) | (refine congrArg (FV.int .i64) ?_; omega)) ?_)) (by repeat (first | exact SlC.nil | refine SlC.cons (.plain rfl rfl (by first | rfl | (simp; done) | (congr 1; omega) | (simp; omega) | (simp [List.take_of_length_le]; done) | (refine congrArg (FV.int .i64) ?_; omega))) ?_ | refine SlC.cons (.own rfl (.head _) rfl (by first | rfl | (simp; done) | (congr 1; omega) | (simp; omega) | (simp [List.take_of_length_le]; done) | (refine congrArg (FV.int .i64) ?_; omega))) ?_)))
  · have : i = l.length := by simp at h; omega
    subst this
    (repeat (first | refine FW.seq ?_ | refine FW.region ?_ | refine FW.exit ?_ | refine RunN.nil ?_ | refine rn_assign rfl rfl rfl ?_ | refine rn_move rfl rfl rfl ?_))
    exact FW.ret ⟨.inl rfl, ret_ow rfl rfl rfl (by simp) (by decide) rfl (intT.flatsM _)⟩
theorem ofKey_spec (l : List OpV) (key : Int) (hl : l.length ≤ 1000000000) : Spec Try.prog 21 [.list 8 (l.map OpV.fv), .int .i64 key] (.ow 3 1) (.list 1 ((whereTo (byKey key) l l.length).map intf)) := by
  refine Spec.of_body (c := (cxOf Try.prog tyAt_ok mixed_ok 8)) ⟨Try.func21, rfl, Try.ntmps21, by kernel_rfl⟩ (by simp [FV.hand]) (by exact Nat.le_of_ble_eq_true rfl) rfl ?_
  change FW _ _ _ ⟨[(0, .list 8 (l.map OpV.fv)), (1, .int .i64 key)], []⟩
  (repeat (first | refine FW.seq ?_ | refine FW.region ?_ | refine RunN.nil ?_ | refine rn_box1 rfl rfl rfl rfl rfl ?_ | refine rn_assign rfl rfl rfl ?_ | refine rn_move rfl rfl rfl ?_))
  refine RunN.le ?_ (FLe.shareP 3 rfl rfl)
  (repeat (first | refine rn_makeFn1 rfl rfl rfl rfl ?_))
  refine rn_callO (where_spec l 55 [.eptr 1 [[.int .i64 key]] 0 0] (byKey key) hl (ofKey1_spec key)) (by repeat (first | exact ArgsR.nil | refine ArgsR.cons (by first | exact ArgR.plain rfl rfl) ?_)) (List.length_map _) rfl rfl rfl ?_
  (repeat (first | refine RunN.nil ?_ | refine rn_assign rfl rfl rfl ?_))
  exact FW.ret ⟨.inl rfl, ret_ow rfl rfl rfl (by simp) (by decide) rfl (intT.flatsM _)⟩
theorem ofProcess_spec (l : List OpV) (p : Int) (hl : l.length ≤ 1000000000) : Spec Try.prog 23 [.list 8 (l.map OpV.fv), .int .i64 p] (.ow 3 1) (.list 1 ((whereTo (byProc p) l l.length).map intf)) := by
  refine Spec.of_body (c := (cxOf Try.prog tyAt_ok mixed_ok 8)) ⟨Try.func23, rfl, Try.ntmps23, by kernel_rfl⟩ (by simp [FV.hand]) (by exact Nat.le_of_ble_eq_true rfl) rfl ?_
  change FW _ _ _ ⟨[(0, .list 8 (l.map OpV.fv)), (1, .int .i64 p)], []⟩
  (repeat (first | refine FW.seq ?_ | refine FW.region ?_ | refine RunN.nil ?_ | refine rn_box1 rfl rfl rfl rfl rfl ?_ | refine rn_assign rfl rfl rfl ?_ | refine rn_move rfl rfl rfl ?_))
  refine RunN.le ?_ (FLe.shareP 3 rfl rfl)
  (repeat (first | refine rn_makeFn1 rfl rfl rfl rfl ?_))
  refine rn_callO (where_spec l 56 [.eptr 1 [[.int .i64 p]] 0 0] (byProc p) hl (ofProcess1_spec p)) (by repeat (first | exact ArgsR.nil | refine ArgsR.cons (by first | exact ArgR.plain rfl rfl) ?_)) (List.length_map _) rfl rfl rfl ?_
  (repeat (first | refine RunN.nil ?_ | refine rn_assign rfl rfl rfl ?_))
  exact FW.ret ⟨.inl rfl, ret_ow rfl rfl rfl (by simp) (by decide) rfl (intT.flatsM _)⟩
end Go.Proofs.Ytflkbehbenlhaaa
/-
  The reference's Only, at plain values.
-/
namespace Go.Proofs.Ytflkbehbenlhaaa
set_option linter.unusedVariables false
open Go.RowKit

def inL (l : List OpV) (i : Int) : Bool := decide (0 ≤ i) && decide (i < l.length)
def onlyI (l : List OpV) (idx : List Int) : List OpV := (idx.filter (inL l)).map fun i => nth l i.toNat
theorem onlyI_len (l : List OpV) (idx : List Int) : (onlyI l idx).length ≤ idx.length := by unfold onlyI; rw [List.length_map]; exact List.length_filter_le _ _
theorem onlyI_succ (l : List OpV) (idx : List Int) (i : Nat) (h : i < idx.length) : onlyI l (idx.take (i + 1)) = onlyI l (idx.take i) ++ (if inL l (nth idx i) = true then [nth l (nth idx i).toNat] else []) := by
  unfold onlyI
  rw [List.take_succ_eq_append_getElem h, List.filter_append, List.map_append, nth_eq h]
  congr 1
  by_cases hx : inL l idx[i] = true <;> simp [hx]
set_option maxHeartbeats 4000000 in
theorem only20_spec (l : List OpV) (idx : List Int) (hl : l.length ≤ 1000000000) (hx : idx.length ≤ 1000000000) : Spec Try.prog 28 [.list 8 (l.map OpV.fv), .list 1 (idx.map intf)] (.ow 37 8) (.list 8 ((onlyI l idx).map OpV.fv)) := by
  refine Spec.of_body (c := (cxOf Try.prog tyAt_ok mixed_ok 38)) ⟨Try.func28, rfl, Try.ntmps28, by kernel_rfl⟩ (by simp [FV.hand]) (by exact Nat.le_of_ble_eq_true rfl) rfl ?_
  change FW _ _ _ ⟨[(0, .list 8 (l.map OpV.fv)), (1, .list 1 (idx.map intf))], []⟩
  (repeat (first | refine FW.seq ?_ | refine FW.region ?_ | refine FW.block ?_ | refine RunN.nil ?_ | refine rn_assign rfl rfl rfl ?_))
  refine FW.loop (fun i : Nat => ⟨[(0, .list 8 (l.map OpV.fv)), (1, .list 1 (idx.map intf)), (5, .own 100 0 0 (onlyI l (idx.take i)).length), (6, .int .i64 i)], [(100, ⟨0, .own, 37, 8, (onlyI l (idx.take i)).map OpV.fv⟩)]⟩) (fun i => i ≤ idx.length) (fun i => idx.length - i) 0 (Nat.zero_le _)
    (FLe.conv [⟨100, none, 0, ⟨0, .own, 37, 8, []⟩⟩] (by simp) (by simp) rfl (by repeat (first | exact GhOk.nil | refine GhOk.low rfl ?_ | refine GhOk.same rfl ?_ | refine GhOk.bump (Nat.lt_succ_self _) ?_)) (by repeat (first | exact EntsOk.nil | refine EntsOk.new ?_)) (by repeat (first | exact SlC.nil | refine SlC.cons (.plain rfl rfl (by first | rfl | (simp; done) | (congr 1; omega) | (simp; omega) | (simp [List.take_of_length_le]; done) | (refine congrArg (FV.int .i64) ?_; omega))) ?_ | refine SlC.cons (.nil rfl (.head _) rfl) ?_))) ?_
  intro i hi
  have hol : (onlyI l (idx.take i)).length ≤ i := Nat.le_trans (onlyI_len _ _) (by rw [List.length_take]; omega)
  (repeat (first | refine FW.seq ?_ | refine FW.region ?_ | refine RunN.nil ?_ | refine rn_move rfl rfl rfl ?_ | refine rn_lenList rfl rfl (by first | exact List.length_map _ | exact (List.length_map _).symm | exact List.length_replicate | rfl | (simp; done) | omega | (simp; omega)) rfl rfl ?_ | refine rn_lss rfl rfl rfl rfl ?_))
  refine FW.cond rfl (fun h => ?_) (fun h => ?_)
  · have hlt : i < idx.length := by simpa using h
    clear h
    have hs := onlyI_succ l idx i hlt
    (repeat (first | refine FW.seq ?_ | refine FW.region ?_ | refine FW.block ?_ | refine FW.skip ?_ | refine rn_move rfl rfl rfl ?_ | refine rn_indexL rfl rfl (by first | rfl | exact (Int.toNat_of_nonneg (by omega)).symm) rfl rfl rfl (by first | omega | (simp; omega) | (simp; done)) rfl rfl ?_ | refine rn_loadE rfl rfl rfl (by first | omega | (simp; omega) | (simp; done)) (by first | exact getD_map (by omega) | rfl) rfl rfl rfl rfl ?_ | refine rn_geq rfl rfl rfl rfl ?_))
    refine rn_case (fun h => ?_) (fun h => ?_)
    · have h0 : 0 ≤ nth idx i := by simpa using h
      (repeat (first | refine RunN.nil ?_ | refine rn_pickT rfl rfl rfl rfl ?_ | refine rn_move rfl rfl ⟨_, _, rfl, rfl, rfl⟩ ?_ | refine rn_indexL rfl rfl (by first | rfl | exact (Int.toNat_of_nonneg (by omega)).symm) rfl rfl rfl (by first | omega | (simp; omega) | (simp; done)) rfl ⟨_, _, rfl, rfl, rfl⟩ ?_ | refine rn_loadE rfl rfl rfl (by first | omega | (simp; omega) | (simp; done)) (by first | exact getD_map (by omega) | rfl) rfl rfl rfl ⟨_, _, rfl, rfl, rfl⟩ ?_ | refine rn_lenList rfl rfl (by first | exact List.length_map _ | exact (List.length_map _).symm | exact List.length_replicate | rfl | (simp; done) | omega | (simp; omega)) rfl ⟨_, _, rfl, rfl, rfl⟩ ?_ | refine rn_lss rfl rfl rfl ⟨_, _, rfl, rfl, rfl⟩ ?_))
      refine FW.cond rfl (fun h2 => ?_) (fun h2 => ?_)
      · have hk : nth idx i < l.length := by simpa using h2
        (repeat (first | refine FW.region ?_ | refine RunN.nil ?_ | refine rn_assign rfl rfl rfl ?_ | refine rn_move rfl rfl rfl ?_ | refine rn_indexL rfl rfl (by first | rfl | exact (Int.toNat_of_nonneg (by omega)).symm) rfl rfl rfl (by first | omega | (simp; omega) | (simp; done)) rfl rfl ?_ | refine rn_loadE rfl rfl rfl (by first | omega | (simp; omega) | (simp; done)) (by first | exact getD_map (by omega) | rfl) rfl rfl rfl rfl ?_ | refine rn_loadEA rfl rfl rfl (by decide) (by first | omega | (simp; omega) | (simp; done)) (by first | exact getD_map (by omega) | rfl) rfl rfl rfl ?_ | refine rn_buildS1A rfl rfl rfl rfl rfl rfl rfl rfl rfl rfl ?_ | refine rn_appO rfl rfl (by first | exact List.length_map _ | exact (List.length_map _).symm | exact List.length_replicate | rfl | (simp; done) | omega | (simp; omega)) rfl rfl rfl (by decide) (by first | exact SrcR.own rfl rfl (by decide) (by first | exact List.length_map _ | exact (List.length_map _).symm | exact List.length_replicate | rfl | (simp; done) | omega | (simp; omega)) | exact SrcR.list rfl | exact SrcR.nil rfl | exact SrcR.part rfl rfl (by decide)) (by first | omega | (simp; omega) | (simp; done)) (by first | omega | (simp; omega) | (simp; done)) rfl rfl rfl ?_ | refine rn_add rfl rfl (by omega) rfl rfl ?_))
        refine ⟨i + 1, by omega, by omega, ?_⟩
        rw [hs, if_pos (by unfold inL; simp; omega), List.map_append]
        exact (FLe.conv [⟨100, some 36, 1, ⟨0, .own, 37, 8, (onlyI l (idx.take i)).map OpV.fv ++ [nth l (nth idx i).toNat].map OpV.fv⟩⟩] (by simp) (by simp) rfl (by repeat (first | exact GhOk.nil | refine GhOk.low rfl ?_ | refine GhOk.same rfl ?_ | refine GhOk.bump (Nat.lt_succ_self _) ?_)) (by repeat (first | exact EntsOk.nil | refine EntsOk.old rfl (by decide) (by first | rfl | (simp; done) | (congr 1; omega) | (simp; omega) | (simp [List.take_of_length_le]; done) | (refine congrArg (FV.int .i64) ?_; omega)) ?_)) (by repeat (first | exact SlC.nil | refine SlC.cons (.plain rfl rfl (by first | rfl | (simp; done) | (congr 1; omega) | (simp; omega) | (simp [List.take_of_length_le]; done) | (refine congrArg (FV.int .i64) ?_; omega))) ?_ | refine SlC.cons (.own rfl (.head _) rfl (by first | rfl | (simp; done) | (congr 1; omega) | (simp; omega) | (simp [List.take_of_length_le]; done) | (refine congrArg (FV.int .i64) ?_; omega))) ?_)))
      · have hk : ¬ nth idx i < l.length := by simpa using h2
        (repeat (first | refine FW.region ?_ | refine FW.skip ?_ | refine RunN.nil ?_ | refine rn_assign rfl rfl rfl ?_ | refine rn_move rfl rfl rfl ?_ | refine rn_add rfl rfl (by omega) rfl rfl ?_))
        refine ⟨i + 1, by omega, by omega, ?_⟩
        rw [hs, if_neg (by unfold inL; simp; omega), List.append_nil]
        exact (FLe.conv [⟨100, some 100, 0, ⟨0, .own, 37, 8, (onlyI l (idx.take i)).map OpV.fv⟩⟩] (by simp) (by simp) rfl (by repeat (first | exact GhOk.nil | refine GhOk.low rfl ?_ | refine GhOk.same rfl ?_ | refine GhOk.bump (Nat.lt_succ_self _) ?_)) (by repeat (first | exact EntsOk.nil | refine EntsOk.old rfl (by decide) (by first | rfl | (simp; done) | (congr 1; omega) | (simp; omega) | (simp [List.take_of_length_le]; done) | (refine congrArg (FV.int .i64) ?_; omega)) ?_)) (by repeat (first | exact SlC.nil | refine SlC.cons (.plain rfl rfl (by first | rfl | (simp; done) | (congr 1; omega) | (simp; omega) | (simp [List.take_of_length_le]; done) | (refine congrArg (FV.int .i64) ?_; omega))) ?_ | refine SlC.cons (.own rfl (.head _) rfl (by first | rfl | (simp; done) | (congr 1; omega) | (simp; omega) | (simp [List.take_of_length_le]; done) | (refine congrArg (FV.int .i64) ?_; omega))) ?_)))
    · have h0 : ¬ 0 ≤ nth idx i := by simpa using h
      (repeat (first | refine FW.region ?_ | refine FW.skip ?_ | refine FW.condF rfl ?_ | refine RunN.nil ?_ | refine rn_assign rfl rfl rfl ?_ | refine rn_move rfl rfl rfl ?_ | refine rn_pickF rfl rfl rfl rfl ?_ | refine rn_add rfl rfl (by omega) rfl rfl ?_ | refine rn_skip rfl rfl ⟨_, _, rfl, rfl, rfl⟩ ?_))
      refine ⟨i + 1, by omega, by omega, ?_⟩
      rw [hs, if_neg (by unfold inL; simp; omega), List.append_nil]
      exact (FLe.conv [⟨100, some 100, 0, ⟨0, .own, 37, 8, (onlyI l (idx.take i)).map OpV.fv⟩⟩] (by simp) (by simp) rfl (by repeat (first | exact GhOk.nil | refine GhOk.low rfl ?_ | refine GhOk.same rfl ?_ | refine GhOk.bump (Nat.lt_succ_self _) ?_)) (by repeat (first | exact EntsOk.nil | refine EntsOk.old rfl (by decide) (by first | rfl | (simp; done) | (congr 1; omega) | (simp; omega) | (simp [List.take_of_length_le]; done) | (refine congrArg (FV.int .i64) ?_; omega)) ?_)) (by repeat (first | exact SlC.nil | refine SlC.cons (.plain rfl rfl (by first | rfl | (simp; done) | (congr 1; omega) | (simp; omega) | (simp [List.take_of_length_le]; done) | (refine congrArg (FV.int .i64) ?_; omega))) ?_ | refine SlC.cons (.own rfl (.head _) rfl (by first | rfl | (simp; done) | (congr 1; omega) | (simp; omega) | (simp [List.take_of_length_le]; done) | (refine congrArg (FV.int .i64) ?_; omega))) ?_)))
  · have : i = idx.length := by simp at h; omega
    subst this
    rw [List.take_length]
    (repeat (first | refine FW.seq ?_ | refine FW.region ?_ | refine FW.exit ?_ | refine RunN.nil ?_ | refine rn_assign rfl rfl rfl ?_ | refine rn_move rfl rfl rfl ?_))
    exact FW.ret ⟨.inl rfl, ret_ow rfl rfl rfl (by simp) (by decide) rfl (opT.flatsM _)⟩
end Go.Proofs.Ytflkbehbenlhaaa
/-
  The parts of a generated history: each is a history, and they make up the whole.
-/
namespace Go.Proofs.Ytflkbehbenlhaaa
set_option linter.unusedVariables false

theorem gen_wfh {ev : List EvV} {out : List OpV} {opn : List Int} (hg : EvGood ev) (hl : ev.length ≤ 40) (h : GenOk ev ev.length out opn) (hc : hCheck out = 0) (h300 : out.length ≤ 300) (hw : ∀ o ∈ out, wfB o = true) : WFH out ∧ ∀ o ∈ out, 0 ≤ o.p ∧ o.p < 4 := by
  refine ⟨⟨h300, hw, List.pairwise_iff_getElem.2 fun i j hi hj hij => ?_⟩, fun o ho => ?_⟩
  · rw [← nth_eq hi, ← nth_eq hj]
    refine ⟨h.mono i j hij hj, fun hd => ⟨fun e => ?_, fun hd2 e => h.one i j hij hj hd hd2 e.symm⟩, fun e => ⟨(h.seq i j hij hj e).1, Int.le_of_lt (h.seq i j hij hj e).2⟩⟩
    obtain ⟨r, r1, r2, r3, _⟩ := h.ret i hi hd
    obtain ⟨c, c1, c2, c3, _⟩ := h.call j hj
    have : r = c := by omega
    subst this
    rw [r3] at c3; cases c3
  · obtain ⟨j, hj, rfl⟩ := List.getElem_of_mem ho
    rw [← nth_eq hj]
    obtain ⟨c, _, c2, _, c4⟩ := h.call j hj
    rw [c4]
    exact (hg c c2).1
theorem check_wf {l : List OpV} (h : hCheck l = 0) : l.length ≤ 300 ∧ ∀ o ∈ l, wfB o = true := by
  unfold hCheck at h
  split at h
  · cases h
  · refine ⟨by omega, fun o ho => ?_⟩
    have key : ∀ (n k : Nat), hCheckFrom l k n = 0 → ∀ j, k ≤ j → j < k + n → errK l j = 0 := by
      intro n
      induction n with
      | zero => intro k _ j h1 h2; omega
      | succ n ih =>
        intro k hk j h1 h2
        unfold hCheckFrom at hk
        split at hk
        · rename_i he
          rcases Nat.eq_or_lt_of_le h1 with e | e
          · rw [← e]; exact he
          · exact ih (k + 1) hk j e (by omega)
        · rename_i he; exact absurd hk he
    obtain ⟨j, hj, rfl⟩ := List.getElem_of_mem ho
    have := key l.length 0 h j (Nat.zero_le _) (by omega)
    rw [← nth_eq hj]
    unfold errK at this
    by_cases hw : wfB (nth l j) = false
    · rw [if_pos hw] at this; cases this
    · simpa using hw
theorem mixed_wfh (l : List Int) (which : Int) : WFH (mixed l which) ∧ ∀ o ∈ mixed l which, 0 ≤ o.p ∧ o.p < 4 := by
  have hf := mixed_fine l which
  have hw := check_wf hf.1
  have hg := events_good l 12
  have hl := events_len l 12
  have hc := hf.1
  unfold mixed at hw hc ⊢
  split
  · rename_i h; rw [if_pos h] at hw hc
    have inv := regTo_inv (freshOf l) hg hl _ (Nat.le_refl _)
    exact gen_wfh hg hl inv.ok hc hw.1 hw.2
  · rename_i h; rw [if_neg h] at hw hc
    split
    · rename_i h; rw [if_pos h] at hw hc
      have inv := swTo_inv (freshOf l) hg hl _ (Nat.le_refl _)
      exact gen_wfh hg hl inv.ok hc hw.1 hw.2
    · rename_i h; rw [if_neg h] at hw hc
      have inv := quTo_inv hg hl _ (Nat.le_refl _)
      exact gen_wfh hg hl inv.ok hc hw.1 hw.2

theorem only_where (l : List OpV) (p : OpV → Bool) : onlyI l (whereTo p l l.length) = l.filter p := by
  have key : ∀ n, n ≤ l.length → onlyI l (whereTo p l n) = (l.take n).filter p := by
    intro n
    induction n with
    | zero => intro _; simp [onlyI, whereTo]
    | succ n ih =>
      intro hn
      have hn' : n < l.length := by omega
      rw [whereTo_succ, List.take_succ_eq_append_getElem hn', List.filter_append, ← ih (by omega), ← nth_eq hn']
      unfold onlyI
      rw [List.filter_append, List.map_append]
      congr 1
      by_cases hp : p (nth l n) = true
      · rw [if_pos hp]
        have hin : inL l (n : Int) = true := by unfold inL; simp; omega
        simp [hin, hp]
      · rw [if_neg hp]
        simp [hp]
  have := key l.length (Nat.le_refl _)
  rwa [List.take_length] at this
theorem where_count (l : List OpV) (p : OpV → Bool) : (whereTo p l l.length).length = l.countP p := by
  have key : ∀ n, n ≤ l.length → (whereTo p l n).length = (l.take n).countP p := by
    intro n
    induction n with
    | zero => intro _; simp [whereTo]
    | succ n ih =>
      intro hn
      have hn' : n < l.length := by omega
      rw [whereTo_succ, List.take_succ_eq_append_getElem hn', List.countP_append, List.length_append, ih (by omega), ← nth_eq hn']
      by_cases hp : p (nth l n) = true <;> simp [hp]
  have := key l.length (Nat.le_refl _)
  rwa [List.take_length] at this
theorem where_nth (l : List OpV) (p : OpV → Bool) : ∀ n, n ≤ l.length → (whereTo p l n).Pairwise (· < ·) ∧ ∀ x ∈ whereTo p l n, ∃ j : Nat, x = j ∧ j < n ∧ p (nth l j) = true
  | 0, _ => by simp [whereTo]
  | n + 1, hn => by
    obtain ⟨h1, h2⟩ := where_nth l p n (by omega)
    rw [whereTo_succ]
    by_cases hp : p (nth l n) = true
    · rw [if_pos hp]
      refine ⟨List.pairwise_append.2 ⟨h1, by simp, fun a ha b hb => ?_⟩, fun x hx => ?_⟩
      · obtain ⟨j, rfl, hj, _⟩ := h2 a ha
        rw [List.mem_singleton] at hb
        omega
      · rcases List.mem_append.1 hx with hx | hx
        · obtain ⟨j, e, hj, hpj⟩ := h2 x hx
          exact ⟨j, e, by omega, hpj⟩
        · rw [List.mem_singleton] at hx
          exact ⟨n, hx, by omega, hp⟩
    · rw [if_neg hp, List.append_nil]
      exact ⟨h1, fun x hx => by obtain ⟨j, e, hj, hpj⟩ := h2 x hx; exact ⟨j, e, by omega, hpj⟩⟩
theorem parts_sum (f : OpV → Int) : ∀ (l : List OpV) (K : List Int), K.Nodup → (∀ o ∈ l, f o ∈ K) → (K.map fun k => l.countP fun o => decide (f o = k)).sum = l.length
  | [], K, _, _ => by
    induction K with
    | nil => rfl
    | cons k K ih => simp_all
  | o :: l, K, hn, h => by
    have ih := parts_sum f l K hn fun o ho => h o (by simp [ho])
    have ho := h o (by simp)
    have key : ∀ (K : List Int), K.Nodup → (K.map fun k => (o :: l).countP fun o => decide (f o = k)).sum = (K.map fun k => l.countP fun o => decide (f o = k)).sum + (if f o ∈ K then 1 else 0) := by
      intro K
      induction K with
      | nil => intro _; simp
      | cons k K ih2 =>
        intro hn
        rw [List.nodup_cons] at hn
        rw [List.map_cons, List.sum_cons, List.map_cons, List.sum_cons, ih2 hn.2, List.countP_cons]
        by_cases hk : f o = k
        · subst hk
          simp [hn.1]; omega
        · have : (f o ∈ k :: K) ↔ f o ∈ K := by simp [hk]
          simp only [hk, decide_false, this]
          simp; omega
    rw [key K hn, ih, if_pos ho]
    simp
end Go.Proofs.Ytflkbehbenlhaaa
/-
  simproofref01.Has, at plain values.
-/
namespace Go.Proofs.Ytflkbehbenlhaaa
set_option linter.unusedVariables false
open Go.RowKit
def hasB (l : List Int) (n : Int) : Bool := decide (n ∈ l)
set_option maxHeartbeats 1000000 in
theorem has_spec (l : List Int) (n : Int) (hl : l.length ≤ 1000000000) : Spec Try.prog 44 [.list 1 (l.map intf), .int .i64 n] .fr (.bool (hasB l n)) := by
  refine Spec.of_body (c := (cxOf Try.prog tyAt_ok mixed_ok 18)) ⟨Try.func44, rfl, Try.ntmps44, by kernel_rfl⟩ (by simp [FV.hand]) (by exact Nat.le_of_ble_eq_true rfl) rfl ?_
  change FW _ _ _ ⟨[(0, .list 1 (l.map intf)), (1, .int .i64 n)], []⟩
  (repeat (first | refine FW.seq ?_ | refine FW.region ?_ | refine FW.block ?_ | refine RunN.nil ?_ | refine rn_assign rfl rfl rfl ?_))
  refine FW.loop (fun k : Nat => ⟨[(0, .list 1 (l.map intf)), (1, .int .i64 n), (5, .int .i64 k)], []⟩) (fun k => k ≤ l.length ∧ n ∉ l.take k) (fun k => l.length - k) 0 (by simp) (FLe.conv [] (by simp) (by simp) rfl (by repeat (first | exact GhOk.nil | refine GhOk.low rfl ?_ | refine GhOk.same rfl ?_ | refine GhOk.bump (Nat.lt_succ_self _) ?_)) (by repeat (first | exact EntsOk.nil)) (by repeat (first | exact SlC.nil | refine SlC.cons (.plain rfl rfl (by first | rfl | (simp; done) | (congr 1; omega) | (simp; omega) | (simp [List.take_of_length_le]; done) | (refine congrArg (FV.int .i64) ?_; omega))) ?_))) ?_
  rintro k ⟨hk, hn⟩
  (repeat (first | refine FW.seq ?_ | refine FW.region ?_ | refine RunN.nil ?_ | refine rn_move rfl rfl rfl ?_ | refine rn_lenList rfl rfl (by first | exact List.length_map _ | exact (List.length_map _).symm | exact List.length_replicate | rfl | (simp; done) | omega | (simp; omega)) rfl rfl ?_ | refine rn_lss rfl rfl rfl rfl ?_))
  refine FW.cond rfl (fun h => ?_) (fun h => ?_)
  · have hlt : k < l.length := by simpa using h
    (repeat (first | refine FW.seq ?_ | refine FW.region ?_ | refine FW.block ?_ | refine FW.skip ?_ | refine RunN.nil ?_ | refine rn_move rfl rfl rfl ?_ | refine rn_indexL rfl rfl (by first | rfl | exact (Int.toNat_of_nonneg (by omega)).symm) rfl rfl rfl (by first | omega | (simp; omega) | (simp; done)) rfl rfl ?_ | refine rn_loadE rfl rfl rfl (by first | omega | (simp; omega) | (simp; done)) (by first | exact getD_map (by omega) | rfl) rfl rfl rfl rfl ?_ | refine rn_eql rfl rfl rfl rfl ?_))
    refine FW.cond rfl (fun h => ?_) (fun h => ?_)
    · (repeat (first | refine FW.seq ?_ | refine FW.region ?_ | refine RunN.nil ?_ | refine rn_assign rfl rfl rfl ?_))
      refine FW.ret ⟨.inl rfl, ?_⟩
      have e : hasB l n = true := by
        have : nth l k = n := by simpa using h
        simp only [hasB, decide_eq_true_eq, ← this]
        exact nth_mem hlt
      rw [e]
      exact .flat (.cons (.tmp 4 rfl rfl) .nil) rfl rfl
    · (repeat (first | refine FW.region ?_ | refine FW.skip ?_ | refine RunN.nil ?_ | refine rn_assign rfl rfl rfl ?_ | refine rn_move rfl rfl rfl ?_ | refine rn_add rfl rfl (by omega) rfl rfl ?_))
      refine ⟨k + 1, ⟨by omega, ?_⟩, by omega, (FLe.conv [] (by simp) (by simp) rfl (by repeat (first | exact GhOk.nil | refine GhOk.low rfl ?_ | refine GhOk.same rfl ?_ | refine GhOk.bump (Nat.lt_succ_self _) ?_)) (by repeat (first | exact EntsOk.nil)) (by repeat (first | exact SlC.nil | refine SlC.cons (.plain rfl rfl (by first | rfl | (simp; done) | (congr 1; omega) | (simp; omega) | (simp [List.take_of_length_le]; done) | (refine congrArg (FV.int .i64) ?_; omega))) ?_)))⟩
      have : nth l k ≠ n := by simpa using h
      rw [List.take_succ_eq_append_getElem hlt, List.mem_append]
      rintro (h1 | h1)
      · exact hn h1
      · rw [nth_eq hlt] at this
        simp at h1; exact this h1.symm
  · (repeat (first | refine FW.seq ?_ | refine FW.region ?_ | refine FW.exit ?_ | refine RunN.nil ?_ | refine rn_assign rfl rfl rfl ?_))
    refine FW.ret ⟨.inl rfl, ?_⟩
    have e : hasB l n = false := by
      have : k = l.length := by simp at h; omega
      subst this
      simpa [hasB] using hn
    rw [e]
    exact .flat (.cons (.tmp 4 rfl rfl) .nil) rfl rfl
end Go.Proofs.Ytflkbehbenlhaaa
/-
  Before, of whatever numbers, at plain values.
-/
namespace Go.Proofs.Ytflkbehbenlhaaa
set_option linter.unusedVariables false
open Go.RowKit

def befI (l : List OpV) (i k : Int) : Bool := if 0 ≤ i ∧ 0 ≤ k ∧ i < l.length ∧ k < l.length then bef l i.toNat k.toNat else false
theorem befI_out {l : List OpV} {i k : Int} (h : ¬ (0 ≤ i ∧ 0 ≤ k ∧ i < l.length ∧ k < l.length)) : befI l i k = false := by unfold befI; rw [if_neg h]
theorem befI_in {l : List OpV} {i k : Nat} (hi : i < l.length) (hk : k < l.length) : befI l i k = bef l i k := by
  unfold befI
  rw [if_pos (by omega)]
  rfl
set_option maxHeartbeats 2000000 in
theorem hBeforeI_spec (l : List OpV) (i k : Int) (hl : l.length ≤ 1000000000) : Spec Try.prog 19 [.list 8 (l.map OpV.fv), .int .i64 i, .int .i64 k] .fr (.bool (befI l i k)) := by
  by_cases hin : 0 ≤ i ∧ 0 ≤ k ∧ i < l.length ∧ k < l.length
  · obtain ⟨a, ha⟩ : ∃ a : Nat, i = a := ⟨i.toNat, by omega⟩
    obtain ⟨b, hb⟩ : ∃ b : Nat, k = b := ⟨k.toNat, by omega⟩
    subst ha; subst hb
    rw [befI_in (by omega) (by omega)]
    exact hBefore_spec l a b (by omega) (by omega)
  · rw [befI_out hin]
    refine Spec.of_body (c := (cxOf Try.prog tyAt_ok mixed_ok 37)) ⟨Try.func19, rfl, Try.ntmps19, by kernel_rfl⟩ (by simp [FV.hand]) (by exact Nat.le_of_ble_eq_true rfl) rfl ?_
    change FW _ _ _ ⟨[(0, .list 8 (l.map OpV.fv)), (1, .int .i64 i), (2, .int .i64 k)], []⟩
    (repeat (first | refine FW.seq ?_ | refine FW.region ?_ | refine RunN.nil ?_ | refine rn_assign rfl rfl rfl ?_ | refine rn_move rfl rfl rfl ?_ | refine rn_min rfl rfl rfl rfl ?_ | refine rn_lss rfl rfl rfl rfl ?_))
    refine rn_case (fun h => ?_) (fun h => ?_)
    · (repeat (first | refine FW.seq ?_ | refine FW.region ?_ | refine FW.condT rfl ?_ | refine RunN.nil ?_ | refine rn_assign rfl rfl rfl ?_ | refine rn_pickT rfl rfl rfl rfl ?_ | refine rn_skip rfl rfl ⟨_, _, rfl, rfl, rfl⟩ ?_))
      exact FW.ret ⟨.inl rfl, ret_flat rfl rfl rfl rfl⟩
    · (repeat (first | refine RunN.nil ?_ | refine rn_pickF rfl rfl rfl rfl ?_ | refine rn_move rfl rfl ⟨_, _, rfl, rfl, rfl⟩ ?_ | refine rn_max rfl rfl rfl ⟨_, _, rfl, rfl, rfl⟩ ?_ | refine rn_lenList rfl rfl (by first | exact List.length_map _ | exact (List.length_map _).symm | exact List.length_replicate | rfl | (simp; done) | omega | (simp; omega)) rfl ⟨_, _, rfl, rfl, rfl⟩ ?_ | refine rn_geq rfl rfl rfl ⟨_, _, rfl, rfl, rfl⟩ ?_))
      refine FW.cond rfl (fun h2 => ?_) (fun h2 => ?_)
      · (repeat (first | refine FW.seq ?_ | refine FW.region ?_ | refine RunN.nil ?_ | refine rn_assign rfl rfl rfl ?_))
        exact FW.ret ⟨.inl rfl, ret_flat rfl rfl rfl rfl⟩
      · exfalso
        simp at h h2
        exact hin (by omega)
set_option maxHeartbeats 2000000 in
theorem rBefore20_spec (l : List OpV) (i k : Int) (hl : l.length ≤ 1000000000) : Spec Try.prog 20 [.list 8 (l.map OpV.fv), .int .i64 i, .int .i64 k] .fr (.bool (befI l i k)) := by
  by_cases hin : 0 ≤ i ∧ 0 ≤ k ∧ i < l.length ∧ k < l.length
  · obtain ⟨a, ha⟩ : ∃ a : Nat, i = a := ⟨i.toNat, by omega⟩
    obtain ⟨b, hb⟩ : ∃ b : Nat, k = b := ⟨k.toNat, by omega⟩
    subst ha; subst hb
    rw [befI_in (by omega) (by omega)]
    have hal : a < l.length := by omega
    have hbl : b < l.length := by omega
    refine Spec.of_body (c := (cxOf Try.prog tyAt_ok mixed_ok 43)) ⟨Try.func20, rfl, Try.ntmps20, by kernel_rfl⟩ (by simp [FV.hand]) (by exact Nat.le_of_ble_eq_true rfl) rfl ?_
    change FW _ _ _ ⟨[(0, .list 8 (l.map OpV.fv)), (1, .int .i64 a), (2, .int .i64 b)], []⟩
    (repeat (first | refine FW.seq ?_ | refine FW.region ?_ | refine RunN.nil ?_ | refine rn_assign rfl rfl rfl ?_ | refine rn_move rfl rfl rfl ?_ | refine rn_lss rfl rfl rfl rfl ?_ | refine rn_pickF rfl rfl rfl rfl ?_ | refine rn_move rfl rfl ⟨_, _, rfl, rfl, rfl⟩ ?_ | refine rn_lss rfl rfl rfl ⟨_, _, rfl, rfl, rfl⟩ ?_ | refine rn_lenList rfl rfl (by first | exact List.length_map _ | exact (List.length_map _).symm | exact List.length_replicate | rfl | (simp; done) | omega | (simp; omega)) rfl ⟨_, _, rfl, rfl, rfl⟩ ?_ | refine rn_geq rfl rfl rfl ⟨_, _, rfl, rfl, rfl⟩ ?_))
    refine rn_case (fun h => absurd h (by simp; omega)) (fun _ => ?_)
    (repeat (first | refine RunN.nil ?_ | refine rn_pickF rfl rfl rfl rfl ?_ | refine rn_move rfl rfl ⟨_, _, rfl, rfl, rfl⟩ ?_ | refine rn_lenList rfl rfl (by first | exact List.length_map _ | exact (List.length_map _).symm | exact List.length_replicate | rfl | (simp; done) | omega | (simp; omega)) rfl ⟨_, _, rfl, rfl, rfl⟩ ?_ | refine rn_geq rfl rfl rfl ⟨_, _, rfl, rfl, rfl⟩ ?_))
    refine FW.cond rfl (fun h => absurd h (by simp; omega)) (fun _ => ?_)
    (repeat (first | refine FW.seq ?_ | refine FW.skip ?_ | refine FW.draw ?_ | refine rd_move rfl rfl rfl ?_ | refine rd_indexL rfl rfl (by first | rfl | exact (Int.toNat_of_nonneg (by omega)).symm) rfl rfl rfl (by first | omega | (simp; omega) | (simp; done)) rfl rfl ?_ | refine rd_fieldE rfl rfl rfl rfl rfl rfl rfl ?_ | refine rd_loadE rfl rfl rfl (by first | omega | (simp; omega) | (simp; done)) (by first | exact getD_map (by omega) | rfl) rfl rfl rfl rfl ?_))
    refine rd_case (fun h => ?_) (fun h => ?_)
    · (repeat (first | refine RunD.nil ?_ | refine rd_assign rfl rfl rfl ?_ | refine rd_pickT rfl rfl rfl rfl ?_ | refine rd_move rfl rfl ⟨_, _, rfl, rfl, rfl⟩ ?_ | refine rd_lss rfl rfl rfl ⟨_, _, rfl, rfl, rfl⟩ ?_ | refine rd_indexL rfl rfl (by first | rfl | exact (Int.toNat_of_nonneg (by omega)).symm) rfl rfl rfl (by first | omega | (simp; omega) | (simp; done)) rfl ⟨_, _, rfl, rfl, rfl⟩ ?_ | refine rd_fieldE rfl rfl rfl rfl rfl rfl ⟨_, _, rfl, rfl, rfl⟩ ?_ | refine rd_loadE rfl rfl rfl (by first | omega | (simp; omega) | (simp; done)) (by first | exact getD_map (by omega) | rfl) rfl rfl rfl ⟨_, _, rfl, rfl, rfl⟩ ?_))
      refine ⟨by kernel_rfl, ?_⟩
      skip
      refine FW.ret ⟨.inl rfl, ret_flat rfl rfl ?_ rfl⟩
      simp [bef, h]; rfl
    · (repeat (first | refine RunD.nil ?_ | refine rd_assign rfl rfl rfl ?_ | refine rd_pickF rfl rfl rfl rfl ?_ | refine rd_skip rfl rfl ⟨_, _, rfl, rfl, rfl⟩ ?_))
      refine ⟨by kernel_rfl, ?_⟩
      skip
      refine FW.ret ⟨.inl rfl, ret_flat rfl rfl ?_ rfl⟩
      simp [bef, h]; rfl
  · rw [befI_out hin]
    refine Spec.of_body (c := (cxOf Try.prog tyAt_ok mixed_ok 43)) ⟨Try.func20, rfl, Try.ntmps20, by kernel_rfl⟩ (by simp [FV.hand]) (by exact Nat.le_of_ble_eq_true rfl) rfl ?_
    change FW _ _ _ ⟨[(0, .list 8 (l.map OpV.fv)), (1, .int .i64 i), (2, .int .i64 k)], []⟩
    (repeat (first | refine FW.seq ?_ | refine FW.region ?_ | refine RunN.nil ?_ | refine rn_assign rfl rfl rfl ?_ | refine rn_move rfl rfl rfl ?_ | refine rn_lss rfl rfl rfl rfl ?_))
    refine rn_case (fun h => ?_) (fun h1 => ?_)
    · (repeat (first | refine FW.seq ?_ | refine FW.region ?_ | refine FW.condT rfl ?_ | refine RunN.nil ?_ | refine rn_assign rfl rfl rfl ?_ | refine rn_move rfl rfl rfl ?_ | refine rn_pickT rfl rfl rfl rfl ?_ | refine rn_skip rfl rfl ⟨_, _, rfl, rfl, rfl⟩ ?_))
      exact FW.ret ⟨.inl rfl, ret_flat rfl rfl rfl rfl⟩
    · (repeat (first | refine rn_move rfl rfl rfl ?_ | refine rn_pickF rfl rfl rfl rfl ?_ | refine rn_move rfl rfl ⟨_, _, rfl, rfl, rfl⟩ ?_ | refine rn_lss rfl rfl rfl ⟨_, _, rfl, rfl, rfl⟩ ?_))
      refine rn_case (fun h => ?_) (fun h2 => ?_)
      · (repeat (first | refine FW.seq ?_ | refine FW.region ?_ | refine FW.condT rfl ?_ | refine RunN.nil ?_ | refine rn_assign rfl rfl rfl ?_ | refine rn_move rfl rfl rfl ?_ | refine rn_pickT rfl rfl rfl rfl ?_ | refine rn_skip rfl rfl ⟨_, _, rfl, rfl, rfl⟩ ?_))
        exact FW.ret ⟨.inl rfl, ret_flat rfl rfl rfl rfl⟩
      · (repeat (first | refine rn_move rfl rfl rfl ?_ | refine rn_pickF rfl rfl rfl rfl ?_ | refine rn_move rfl rfl ⟨_, _, rfl, rfl, rfl⟩ ?_ | refine rn_lenList rfl rfl (by first | exact List.length_map _ | exact (List.length_map _).symm | exact List.length_replicate | rfl | (simp; done) | omega | (simp; omega)) rfl ⟨_, _, rfl, rfl, rfl⟩ ?_ | refine rn_geq rfl rfl rfl ⟨_, _, rfl, rfl, rfl⟩ ?_))
        refine rn_case (fun h => ?_) (fun h3 => ?_)
        · (repeat (first | refine FW.seq ?_ | refine FW.region ?_ | refine FW.condT rfl ?_ | refine RunN.nil ?_ | refine rn_assign rfl rfl rfl ?_ | refine rn_pickT rfl rfl rfl rfl ?_ | refine rn_skip rfl rfl ⟨_, _, rfl, rfl, rfl⟩ ?_))
          exact FW.ret ⟨.inl rfl, ret_flat rfl rfl rfl rfl⟩
        · (repeat (first | refine RunN.nil ?_ | refine rn_pickF rfl rfl rfl rfl ?_ | refine rn_move rfl rfl ⟨_, _, rfl, rfl, rfl⟩ ?_ | refine rn_lenList rfl rfl (by first | exact List.length_map _ | exact (List.length_map _).symm | exact List.length_replicate | rfl | (simp; done) | omega | (simp; omega)) rfl ⟨_, _, rfl, rfl, rfl⟩ ?_ | refine rn_geq rfl rfl rfl ⟨_, _, rfl, rfl, rfl⟩ ?_))
          refine FW.cond rfl (fun h => ?_) (fun h4 => ?_)
          · (repeat (first | refine FW.seq ?_ | refine FW.region ?_ | refine RunN.nil ?_ | refine rn_assign rfl rfl rfl ?_))
            exact FW.ret ⟨.inl rfl, ret_flat rfl rfl rfl rfl⟩
          · exfalso
            simp at h1 h2 h3 h4
            exact hin (by omega)
end Go.Proofs.Ytflkbehbenlhaaa
