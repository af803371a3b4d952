/-
  Some texts as one: WfPlain, FmOnce, FmWhere, FmOnly, PartsPlain, FmHas, FmKeys, KeysPlain.
-/
import Derived.Test.YtflkbehbenlhaaaZD
import Derived.Test.YtflkbehbenlhaaaZF
import Derived.Test.YtflkbehbenlhaaaZSortPlain
/-
  Lists of operations that are histories, told by pairs; what keeps them so.
-/
namespace Go.Proofs.Ytflkbehbenlhaaa
set_option linter.unusedVariables false

def hRel (a b : OpV) : Prop := a.call < b.call ∧ (a.done = true → a.ret ≠ b.call ∧ (b.done = true → b.ret ≠ a.ret)) ∧ (a.p = b.p → a.done = true ∧ a.ret ≤ b.call)
structure WFH (l : List OpV) : Prop where
  len : l.length ≤ 300
  wf : ∀ o ∈ l, wfB o = true
  rel : l.Pairwise hRel

theorem WFH.pair {l : List OpV} (h : WFH l) {i j : Nat} (hij : i < j) (hj : j < l.length) : hRel (nth l i) (nth l j) := by
  rw [nth_eq hj, nth_eq (show i < l.length by omega)]
  exact List.pairwise_iff_getElem.1 h.rel i j (by omega) hj hij
theorem WFH.at {l : List OpV} (h : WFH l) {i : Nat} (hi : i < l.length) : wfB (nth l i) = true := h.wf _ (nth_mem hi)
theorem wfB_call {o : OpV} (h : wfB o = true) : o.call < o.ret := by
  simp only [wfB, Bool.and_eq_true, decide_eq_true_eq] at h
  omega
theorem WFH.err {l : List OpV} (h : WFH l) {k : Nat} (hk : k < l.length) : errK l k = 0 := by
  unfold errK
  rw [if_neg (by rw [h.at hk]; decide)]
  rw [if_neg (fun e => by have := (h.pair (show k - 1 < k by omega) hk).1; omega)]
  rw [if_neg (fun e => ?_), if_neg (fun e => ?_)]
  · obtain ⟨e1, e2⟩ := e
    obtain ⟨q, hq⟩ := Option.isSome_iff_exists.1 e1
    rw [hq] at e2
    simp only [Option.getD_some] at e2
    obtain ⟨m, hm, hmq, hmp⟩ := lastOf_some hq
    subst hmq
    obtain ⟨h1, h2⟩ := (h.pair hm hk).2.2 hmp
    rcases e2 with e2 | e2
    · rw [h1] at e2; cases e2
    · omega
  · have ret : ∀ x, retB l k x = true → ∃ m, m < k ∧ (nth l m).done = true ∧ (nth l m).ret = x := fun x hx => by
      unfold retB at hx
      obtain ⟨m, h1, _, h3⟩ := any_take hx
      simp only [Bool.and_eq_true, beq_iff_eq] at h3
      exact ⟨m, h1, h3⟩
    simp only [Bool.or_eq_true, Bool.and_eq_true] at e
    rcases e with e | ⟨hd, e | e⟩
    · obtain ⟨m, h1, h2, h3⟩ := ret _ e
      exact ((h.pair h1 hk).2.1 h2).1 h3
    · obtain ⟨m, h1, h2, h3⟩ := ret _ e
      exact ((h.pair h1 hk).2.1 h2).2 hd h3.symm
    · unfold callB at e
      obtain ⟨j, _, hj, h3⟩ := any_take e
      simp only [beq_iff_eq] at h3
      have hc := wfB_call (h.at hk)
      rcases Nat.lt_trichotomy j k with h4 | h4 | h4
      · have := (h.pair h4 hk).1; omega
      · subst h4; omega
      · exact ((h.pair h4 hj).2.1 hd).1 h3.symm
theorem WFH.check {l : List OpV} (h : WFH l) : hCheck l = 0 := by
  unfold hCheck
  rw [if_neg (by have := h.len; omega)]
  exact hCheckFrom_zero _ _ fun j _ hj => h.err (by omega)

theorem WFH.sub {l l' : List OpV} (h : WFH l) (hs : l'.Sublist l) : WFH l' := ⟨Nat.le_trans hs.length_le h.len, fun o ho => h.wf o (hs.subset ho), h.rel.sublist hs⟩
theorem WFH.filter {l : List OpV} (h : WFH l) (f : OpV → Bool) : WFH (l.filter f) := h.sub List.filter_sublist
theorem WFH.map {l : List OpV} (h : WFH l) (f : OpV → OpV) (hf : ∀ o, (f o).p = o.p ∧ (f o).k = o.k ∧ (f o).call = o.call ∧ (f o).ret = o.ret ∧ (f o).done = o.done ∧ (o.res = 0 → (f o).res = 0)) : WFH (l.map f) := by
  refine ⟨by rw [List.length_map]; exact h.len, fun o ho => ?_, ?_⟩
  · obtain ⟨x, hx, rfl⟩ := List.mem_map.1 ho
    have hw := h.wf x hx
    obtain ⟨h1, h2, h3, h4, h5, h6⟩ := hf x
    simp only [wfB, Bool.and_eq_true, Bool.or_eq_true, decide_eq_true_eq] at hw ⊢
    rw [h1, h2, h3, h4, h5]
    exact ⟨hw.1, hw.2.imp id h6⟩
  · rw [List.pairwise_map]
    refine h.rel.imp fun {a b} hab => ?_
    obtain ⟨a1, _, a3, a4, a5, _⟩ := hf a
    obtain ⟨b1, _, b3, b4, b5, _⟩ := hf b
    unfold hRel at hab ⊢
    rw [a1, a3, a4, a5, b1, b3, b4, b5]
    exact hab
theorem WFH.set {l : List OpV} (h : WFH l) {i : Nat} (hi : i < l.length) {o : OpV} (hf : o.p = (nth l i).p ∧ o.k = (nth l i).k ∧ o.call = (nth l i).call ∧ o.ret = (nth l i).ret ∧ o.done = (nth l i).done ∧ ((nth l i).done = false → o.res = (nth l i).res)) : WFH (l.set i o) := by
  obtain ⟨h1, h2, h3, h4, h5, h6⟩ := hf
  have hw := h.at hi
  refine ⟨by simpa using h.len, fun x hx => ?_, ?_⟩
  · rcases List.mem_or_eq_of_mem_set hx with hx | rfl
    · exact h.wf x hx
    · simp only [wfB, Bool.and_eq_true, Bool.or_eq_true, decide_eq_true_eq] at hw ⊢
      rw [h1, h2, h3, h4, h5]
      refine ⟨hw.1, ?_⟩
      cases hd : (nth l i).done with
      | true => exact .inl rfl
      | false => right; rw [h6 hd]; rw [hd] at hw; simpa using hw.2
  · have key : ∀ j, j < l.length → (nth (l.set i o) j).p = (nth l j).p ∧ (nth (l.set i o) j).call = (nth l j).call ∧ (nth (l.set i o) j).ret = (nth l j).ret ∧ (nth (l.set i o) j).done = (nth l j).done := fun j hj => by
      by_cases e : i = j
      · subst e; rw [nth_set_same hi]; exact ⟨h1, h3, h4, h5⟩
      · rw [nth_set_other e]; exact ⟨rfl, rfl, rfl, rfl⟩
    rw [List.pairwise_iff_getElem]
    intro a b ha hb hab
    have ha' : a < l.length := by simpa using ha
    have hb' : b < l.length := by simpa using hb
    have hp := h.pair hab hb'
    rw [← nth_eq ha, ← nth_eq hb]
    obtain ⟨a1, a2, a3, a4⟩ := key a ha'
    obtain ⟨b1, b2, b3, b4⟩ := key b hb'
    unfold hRel at hp ⊢
    rw [a1, a2, a3, a4, b1, b2, b3, b4]
    exact hp
end Go.Proofs.Ytflkbehbenlhaaa
/-
  The small functions of layers 01, 21 and 24, at plain values.
-/
namespace Go.Proofs.Ytflkbehbenlhaaa
set_option linter.unusedVariables false
open Go.RowKit

theorem ints_spec (l : List Int) (hl : l.length ≤ 1000000000) : Spec Try.prog 106 [.list 1 (l.map intf), .int .i64 l.length] (.ow 3 1) (.list 1 (l.map intf)) := by
  refine Spec.of_body (c := (cxOf Try.prog tyAt_ok mixed_ok 14)) ⟨Try.func106, rfl, Try.ntmps106, by kernel_rfl⟩ (by simp [FV.hand]) (by exact Nat.le_of_ble_eq_true rfl) rfl ?_
  change FW _ _ _ ⟨[(0, .list 1 (l.map intf)), (1, .int .i64 l.length)], []⟩
  (repeat (first | refine FW.seq ?_ | refine FW.region ?_ | refine RunN.nil ?_ | refine rn_assign rfl rfl rfl ?_ | refine rn_move rfl rfl rfl ?_ | refine rn_lenList rfl rfl (by first | exact List.length_map _ | exact (List.length_map _).symm | exact List.length_replicate | rfl | (simp; done) | omega | (simp; omega)) rfl rfl ?_ | refine rn_min rfl rfl rfl rfl ?_ | refine rn_sliceL rfl rfl rfl rfl (by first | exact LoR.none | exact LoR.some rfl | exact LoR.lit rfl (by first | rfl | exact (Int.toNat_of_nonneg (by omega)).symm)) (by first | exact HiR.none | exact HiR.some rfl | exact HiR.lit rfl (by first | rfl | exact (Int.toNat_of_nonneg (by omega)).symm)) (by first | omega | (simp; omega) | (simp; done)) (by first | omega | (simp; omega) | (simp; done)) rfl rfl ?_ | refine rn_appN rfl rfl rfl rfl (by decide) (by first | exact SrcR.own rfl rfl (by decide) (by first | exact List.length_map _ | exact (List.length_map _).symm | exact List.length_replicate | rfl | (simp; done) | omega | (simp; omega)) | exact SrcR.list rfl | exact SrcR.nil rfl | exact SrcR.part rfl rfl (by decide)) (by first | omega | (simp; omega) | (simp; done)) (by first | omega | (simp; omega) | (simp; done)) rfl rfl rfl ?_))
  exact FW.ret ⟨.inl rfl, ret_ow rfl rfl rfl rfl (by decide) (by simp [← List.map_take]) (intT.flatsM l)⟩

theorem put_spec (l : List Int) (i : Nat) (v : Int) (hl : l.length ≤ 1000000000) (hi : i < l.length) : Spec Try.prog 87 [.list 1 (l.map intf), .int .i64 i, .int .i64 v] (.ow 3 1) (.list 1 ((l.set i v).map intf)) := by
  refine Spec.of_body (c := (cxOf Try.prog tyAt_ok mixed_ok 17)) ⟨Try.func87, rfl, Try.ntmps87, by kernel_rfl⟩ (by simp [FV.hand]) (by exact Nat.le_of_ble_eq_true rfl) rfl ?_
  change FW _ _ _ ⟨[(0, .list 1 (l.map intf)), (1, .int .i64 i), (2, .int .i64 v)], []⟩
  (repeat (first | refine FW.seq ?_ | refine FW.region ?_ | refine RunN.nil ?_ | refine rn_assign rfl rfl rfl ?_ | refine rn_move rfl rfl rfl ?_ | refine rn_lenList rfl rfl (by first | exact List.length_map _ | exact (List.length_map _).symm | exact List.length_replicate | rfl | (simp; done) | omega | (simp; omega)) rfl rfl ?_))
  refine rn_callO (ints_spec l hl) (by repeat (first | exact ArgsR.nil | refine ArgsR.cons (by first | exact ArgR.plain rfl rfl) ?_)) (List.length_map _) rfl rfl rfl ?_
  (repeat (first | refine FW.seq ?_ | refine FW.region ?_ | refine RunN.nil ?_ | refine rn_assign rfl rfl rfl ?_ | refine rn_move rfl rfl rfl ?_ | refine rn_indexO rfl rfl (by first | rfl | exact (Int.toNat_of_nonneg (by omega)).symm) rfl rfl rfl (by decide) rfl (by first | omega | (simp; omega) | (simp; done)) rfl rfl ?_ | refine rn_storeR rfl rfl rfl rfl rfl rfl (by first | omega | (simp; omega) | (simp; done)) (by first | exact getD_map (by omega) | rfl) rfl rfl rfl ?_))
  exact FW.ret ⟨.inl rfl, ret_ow rfl rfl rfl (by simp) (by decide) (by rw [List.map_set]; rfl) (intT.flatsM _)⟩

theorem sameInts_spec (a b : List Int) (ha : a.length ≤ 1000000000) (hb : b.length ≤ 1000000000) : Spec Try.prog 16 [.list 1 (a.map intf), .list 1 (b.map intf)] .fr (.bool (decide (a = b))) := by
  refine Spec.of_body (c := (cxOf Try.prog tyAt_ok mixed_ok 26)) ⟨Try.func16, rfl, Try.ntmps16, by kernel_rfl⟩ (by simp [FV.hand]) (by exact Nat.le_of_ble_eq_true rfl) rfl ?_
  change FW _ _ _ ⟨[(0, .list 1 (a.map intf)), (1, .list 1 (b.map intf))], []⟩
  (repeat (first | refine FW.seq ?_ | refine FW.region ?_ | refine RunN.nil ?_ | refine rn_assign rfl rfl rfl ?_ | refine rn_move rfl rfl rfl ?_ | refine rn_lenList rfl rfl (by first | exact List.length_map _ | exact (List.length_map _).symm | exact List.length_replicate | rfl | (simp; done) | omega | (simp; omega)) rfl rfl ?_ | refine rn_neq rfl rfl rfl rfl ?_))
  refine FW.cond rfl (fun h => ?_) (fun h => ?_)
  · (repeat (first | refine FW.seq ?_ | refine FW.region ?_ | refine RunN.nil ?_ | refine rn_assign rfl rfl rfl ?_))
    refine FW.ret ⟨.inl rfl, ret_flat rfl rfl ?_ rfl⟩
    have : a ≠ b := by rintro rfl; simp at h
    simp [this]; rfl
  · have hlen : a.length = b.length := by simp at h; omega
    (repeat (first | refine FW.seq ?_ | refine FW.region ?_ | refine FW.block ?_ | refine FW.skip ?_ | refine RunN.nil ?_ | refine rn_assign rfl rfl rfl ?_))
    refine FW.loop (fun k : Nat => ⟨[(0, .list 1 (a.map intf)), (1, .list 1 (b.map intf)), (5, .int .i64 k)], []⟩) (fun k => k ≤ a.length ∧ a.take k = b.take k) (fun k => a.length - k) 0 (by simp) (FLe.conv [] (by simp) (by simp) rfl (by repeat (first | exact GhOk.nil | refine GhOk.low rfl ?_ | refine GhOk.same rfl ?_ | refine GhOk.bump (Nat.lt_succ_self _) ?_)) (by repeat (first | exact EntsOk.nil)) (by repeat (first | exact SlC.nil | refine SlC.cons (.plain rfl rfl (by first | rfl | (simp; done) | (congr 1; omega) | (simp; omega) | (simp [List.take_of_length_le]; done) | (refine congrArg (FV.int .i64) ?_; omega))) ?_))) ?_
    rintro k ⟨hk, hab⟩
    (repeat (first | refine FW.seq ?_ | refine FW.region ?_ | refine RunN.nil ?_ | refine rn_move rfl rfl rfl ?_ | refine rn_lenList rfl rfl (by first | exact List.length_map _ | exact (List.length_map _).symm | exact List.length_replicate | rfl | (simp; done) | omega | (simp; omega)) rfl rfl ?_ | refine rn_lss rfl rfl rfl rfl ?_))
    refine FW.cond rfl (fun h => ?_) (fun h => ?_)
    · have hlt : k < a.length := by simpa using h
      clear h
      (repeat (first | refine FW.seq ?_ | refine FW.block ?_ | refine FW.skip ?_ | refine FW.draw ?_ | refine RunD.nil ?_ | refine rd_move rfl rfl rfl ?_ | refine rd_neq rfl rfl rfl rfl ?_ | refine rd_indexL rfl rfl (by first | rfl | exact (Int.toNat_of_nonneg (by omega)).symm) rfl rfl rfl (by first | omega | (simp; omega) | (simp; done)) rfl rfl ?_ | refine rd_loadE rfl rfl rfl (by first | omega | (simp; omega) | (simp; done)) (by first | exact getD_map (by omega) | rfl) rfl rfl rfl rfl ?_))
      refine ⟨by kernel_rfl, ?_⟩
      refine FW.cond rfl (fun h => ?_) (fun h => ?_)
      · (repeat (first | refine FW.seq ?_ | refine FW.region ?_ | refine RunN.nil ?_ | refine rn_assign rfl rfl rfl ?_))
        refine FW.ret ⟨.inl rfl, ret_flat rfl rfl ?_ rfl⟩
        have : a ≠ b := by rintro rfl; simp at h
        simp [this]; rfl
      · (repeat (first | refine FW.region ?_ | refine FW.skip ?_ | refine RunN.nil ?_ | refine rn_assign rfl rfl rfl ?_ | refine rn_move rfl rfl rfl ?_ | refine rn_add rfl rfl (by omega) rfl rfl ?_))
        refine ⟨k + 1, ⟨by omega, ?_⟩, by omega, (FLe.conv [] (by simp) (by simp) rfl (by repeat (first | exact GhOk.nil | refine GhOk.low rfl ?_ | refine GhOk.same rfl ?_ | refine GhOk.bump (Nat.lt_succ_self _) ?_)) (by repeat (first | exact EntsOk.nil)) (by repeat (first | exact SlC.nil | refine SlC.cons (.plain rfl rfl (by first | rfl | (simp; done) | (congr 1; omega) | (simp; omega) | (simp [List.take_of_length_le]; done) | (refine congrArg (FV.int .i64) ?_; omega))) ?_)))⟩
        have h1 : nth a k = nth b k := by simpa using h
        rw [List.take_succ_eq_append_getElem hlt, List.take_succ_eq_append_getElem (by omega), hab, ← nth_eq hlt, ← nth_eq (by omega), h1]
    · (repeat (first | refine FW.seq ?_ | refine FW.region ?_ | refine FW.exit ?_ | refine RunN.nil ?_ | refine rn_assign rfl rfl rfl ?_))
      refine FW.ret ⟨.inl rfl, ret_flat rfl rfl ?_ rfl⟩
      have : k = a.length := by simp at h; omega
      subst this
      have : a = b := by rw [List.take_of_length_le (Nat.le_refl _), List.take_of_length_le (by omega)] at hab; exact hab
      simp [this]; rfl

def bef (l : List OpV) (i k : Nat) : Bool := (nth l i).done && decide ((nth l i).ret < (nth l k).call)
set_option maxHeartbeats 1000000 in
theorem hBefore_spec (l : List OpV) (i k : Nat) (hi : i < l.length) (hk : k < l.length) : Spec Try.prog 19 [.list 8 (l.map OpV.fv), .int .i64 i, .int .i64 k] .fr (.bool (bef l i k)) := by
  refine Spec.of_body (c := (cxOf Try.prog tyAt_ok mixed_ok 37)) ⟨Try.func19, rfl, Try.ntmps19, by kernel_rfl⟩ (by simp [FV.hand]) (by exact Nat.le_of_ble_eq_true rfl) rfl ?_
  change FW _ _ _ ⟨[(0, .list 8 (l.map OpV.fv)), (1, .int .i64 i), (2, .int .i64 k)], []⟩
  (repeat (first | refine FW.seq ?_ | refine FW.region ?_ | refine RunN.nil ?_ | refine rn_assign rfl rfl rfl ?_ | refine rn_move rfl rfl rfl ?_ | refine rn_min rfl rfl rfl rfl ?_ | refine rn_lss rfl rfl rfl rfl ?_))
  refine rn_case (fun h => ?_) (fun h => ?_)
  · exfalso; simp at h; omega
  · (repeat (first | refine RunN.nil ?_ | refine rn_pickF rfl rfl rfl rfl ?_ | refine rn_move rfl rfl ⟨_, _, rfl, rfl, rfl⟩ ?_ | refine rn_max rfl rfl rfl ⟨_, _, rfl, rfl, rfl⟩ ?_ | refine rn_lenList rfl rfl (by first | exact List.length_map _ | exact (List.length_map _).symm | exact List.length_replicate | rfl | (simp; done) | omega | (simp; omega)) rfl ⟨_, _, rfl, rfl, rfl⟩ ?_ | refine rn_geq rfl rfl rfl ⟨_, _, rfl, rfl, rfl⟩ ?_))
    refine FW.cond rfl (fun h => ?_) (fun h => ?_)
    · exfalso; simp at h; omega
    (repeat (first | refine FW.seq ?_ | refine FW.skip ?_ | refine FW.draw ?_ | refine rd_move rfl rfl rfl ?_ | refine rd_indexL rfl rfl (by first | rfl | exact (Int.toNat_of_nonneg (by omega)).symm) rfl rfl rfl (by first | omega | (simp; omega) | (simp; done)) rfl rfl ?_ | refine rd_fieldE rfl rfl rfl rfl rfl rfl rfl ?_ | refine rd_loadE rfl rfl rfl (by first | omega | (simp; omega) | (simp; done)) (by first | exact getD_map (by omega) | rfl) rfl rfl rfl rfl ?_))
    refine rd_case (fun h => ?_) (fun h => ?_)
    · (repeat (first | refine RunD.nil ?_ | refine rd_assign rfl rfl rfl ?_ | refine rd_pickT rfl rfl rfl rfl ?_ | refine rd_move rfl rfl ⟨_, _, rfl, rfl, rfl⟩ ?_ | refine rd_indexL rfl rfl (by first | rfl | exact (Int.toNat_of_nonneg (by omega)).symm) rfl rfl rfl (by first | omega | (simp; omega) | (simp; done)) rfl ⟨_, _, rfl, rfl, rfl⟩ ?_ | refine rd_fieldE rfl rfl rfl rfl rfl rfl ⟨_, _, rfl, rfl, rfl⟩ ?_ | refine rd_loadE rfl rfl rfl (by first | omega | (simp; omega) | (simp; done)) (by first | exact getD_map (by omega) | rfl) rfl rfl rfl ⟨_, _, rfl, rfl, rfl⟩ ?_ | refine rd_lss rfl rfl rfl ⟨_, _, rfl, rfl, rfl⟩ ?_))
      refine ⟨by kernel_rfl, ?_⟩
      skip
      refine FW.ret ⟨.inl rfl, ret_flat rfl rfl ?_ rfl⟩
      simp [bef, h]; rfl
    · (repeat (first | refine RunD.nil ?_ | refine rd_assign rfl rfl rfl ?_ | refine rd_pickF rfl rfl rfl rfl ?_ | refine rd_skip rfl rfl ⟨_, _, rfl, rfl, rfl⟩ ?_))
      refine ⟨by kernel_rfl, ?_⟩
      skip
      refine FW.ret ⟨.inl rfl, ret_flat rfl rfl ?_ rfl⟩
      simp [bef, h]; rfl

def isDel (o : OpV) : Bool := decide (o.k = 4) && o.done && decide (o.res ≠ 0)
set_option maxHeartbeats 1000000 in
theorem delivers_spec (o : OpV) : Spec Try.prog 62 [.agg o.fv] .fr (.tup [.agg [.int .i64 o.key, .int .i64 o.res], .bool (isDel o)]) := by
  refine Spec.of_body (c := (cxOf Try.prog tyAt_ok mixed_ok 21)) ⟨Try.func62, rfl, Try.ntmps62, by kernel_rfl⟩ (by simp [FV.hand]) (by exact Nat.le_of_ble_eq_true rfl) rfl ?_
  change FW _ _ _ ⟨[(0, .agg o.fv)], []⟩
  (repeat (first | refine FW.seq ?_ | refine FW.region ?_ | refine RunN.nil ?_ | refine rn_boxA rfl rfl rfl rfl rfl rfl rfl ?_ | refine rn_alloc rfl rfl rfl rfl rfl rfl rfl ?_ | refine rn_assign rfl rfl rfl ?_ | refine FillK.nil ?_ | refine FillK.one rfl rfl rfl rfl rfl ?_ | refine FW.draw ?_ | refine rd_fieldP rfl rfl rfl rfl rfl rfl (by decide) rfl rfl ?_ | refine rd_loadP rfl rfl rfl rfl rfl (by first | omega | (simp; omega) | (simp; done)) (by first | exact getD_map (by omega) | rfl) rfl rfl rfl rfl ?_ | refine rd_buildK rfl rfl rfl rfl ?_ | refine rd_eql rfl rfl rfl rfl ?_ | refine rd_move rfl rfl rfl ?_ | refine FillK.nil ?_ | refine FillK.one rfl rfl rfl rfl rfl ?_))
  refine rd_case (fun h1 => ?_) (fun h1 => ?_)
  · (repeat (first | refine rd_move rfl rfl rfl ?_ | refine rd_pickT rfl rfl rfl rfl ?_ | refine rd_fieldP rfl rfl rfl rfl rfl rfl (by decide) rfl ⟨_, _, rfl, rfl, rfl⟩ ?_ | refine rd_loadP rfl rfl rfl rfl rfl (by first | omega | (simp; omega) | (simp; done)) (by first | exact getD_map (by omega) | rfl) rfl rfl rfl ⟨_, _, rfl, rfl, rfl⟩ ?_))
    refine rd_case (fun h2 => ?_) (fun h2 => ?_)
    · (repeat (first | refine RunD.nil ?_ | refine rd_assign rfl rfl rfl ?_ | refine rd_pickT rfl rfl rfl rfl ?_ | refine rd_storeVA rfl rfl rfl rfl rfl rfl rfl rfl rfl ?_ | refine rd_fieldP rfl rfl rfl rfl rfl rfl (by decide) rfl ⟨_, _, rfl, rfl, rfl⟩ ?_ | refine rd_loadP rfl rfl rfl rfl rfl (by first | omega | (simp; omega) | (simp; done)) (by first | exact getD_map (by omega) | rfl) rfl rfl rfl ⟨_, _, rfl, rfl, rfl⟩ ?_ | refine rd_neq rfl rfl rfl ⟨_, _, rfl, rfl, rfl⟩ ?_))
      refine ⟨by kernel_rfl, ?_⟩
      skip
      refine FW.ret ⟨.inl rfl, .flat (.cons (resv_cell rfl rfl rfl rfl rfl rfl (by decide)) (.cons (.tmp 3 rfl rfl) .nil)) ?_ rfl⟩
      simp at h1 h2
      simp [isDel, h1, h2, resOf]; rfl
    · (repeat (first | refine RunD.nil ?_ | refine rd_assign rfl rfl rfl ?_ | refine rd_pickF rfl rfl rfl rfl ?_ | refine rd_storeVA rfl rfl rfl rfl rfl rfl rfl rfl rfl ?_ | refine rd_skip rfl rfl ⟨_, _, rfl, rfl, rfl⟩ ?_))
      refine ⟨by kernel_rfl, ?_⟩
      skip
      refine FW.ret ⟨.inl rfl, .flat (.cons (resv_cell rfl rfl rfl rfl rfl rfl (by decide)) (.cons (.tmp 3 rfl rfl) .nil)) ?_ rfl⟩
      simp at h1 h2
      simp [isDel, h1, h2, resOf]; rfl
  · (repeat (first | refine RunD.nil ?_ | refine rd_assign rfl rfl rfl ?_ | refine rd_move rfl rfl rfl ?_ | refine rd_pickF rfl rfl rfl rfl ?_ | refine rd_storeVA rfl rfl rfl rfl rfl rfl rfl rfl rfl ?_ | refine rd_skip rfl rfl ⟨_, _, rfl, rfl, rfl⟩ ?_))
    refine ⟨by kernel_rfl, ?_⟩
    skip
    refine FW.ret ⟨.inl rfl, .flat (.cons (resv_cell rfl rfl rfl rfl rfl rfl (by decide)) (.cons (.tmp 3 rfl rfl) .nil)) ?_ rfl⟩
    simp at h1
    simp [isDel, h1, resOf]; rfl
end Go.Proofs.Ytflkbehbenlhaaa
/-
  The parts of a history: where, OfKey, OfProcess, and the reference's, at plain values.
-/
namespace Go.Proofs.Ytflkbehbenlhaaa
set_option linter.unusedVariables false
open Go.RowKit

def whereTo (p : OpV → Bool) (l : List OpV) (i : Nat) : List Int := ((List.range i).filter fun j => p (nth l j)).map fun (j : Nat) => (j : Int)
theorem whereTo_succ (p : OpV → Bool) (l : List OpV) (i : Nat) : whereTo p l (i + 1) = whereTo p l i ++ (if p (nth l i) = true then [(i : Int)] else []) := by
  unfold whereTo
  rw [List.range_succ, List.filter_append, List.map_append]
  congr 1
  by_cases h : p (nth l i) = true <;> simp [h]
theorem whereTo_len (p : OpV → Bool) (l : List OpV) (i : Nat) : (whereTo p l i).length ≤ i := by
  unfold whereTo
  rw [List.length_map]
  exact Nat.le_trans (List.length_filter_le _ _) (by simp)
def byKey (key : Int) (o : OpV) : Bool := decide (o.key = key)
theorem ofKey1_spec (key : Int) (o : OpV) : Spec Try.prog 55 ([.agg o.fv] ++ [.eptr 1 [[.int .i64 key]] 0 0]) .fr (.bool (byKey key o)) := by
  refine Spec.of_body (c := (cxOf Try.prog tyAt_ok mixed_ok 8)) ⟨Try.func55, rfl, Try.ntmps55, by kernel_rfl⟩ (by simp [FV.hand]) (by exact Nat.le_of_ble_eq_true rfl) rfl ?_
  change FW _ _ _ ⟨[(0, .agg o.fv), (1, .eptr 1 [[.int .i64 key]] 0 0)], []⟩
  (repeat (first | refine FW.seq ?_ | refine FW.region ?_ | refine RunN.nil ?_ | refine rn_boxA rfl rfl rfl rfl rfl rfl rfl ?_ | refine rn_assign rfl rfl rfl ?_ | refine rn_fieldP rfl rfl rfl rfl rfl rfl (by decide) rfl rfl ?_ | refine rn_loadE rfl rfl rfl (by first | omega | (simp; omega) | (simp; done)) (by first | exact getD_map (by omega) | rfl) rfl rfl rfl rfl ?_ | refine rn_loadP rfl rfl rfl rfl rfl (by first | omega | (simp; omega) | (simp; done)) (by first | exact getD_map (by omega) | rfl) rfl rfl rfl rfl ?_ | refine rn_eql rfl rfl rfl rfl ?_))
  exact FW.ret ⟨.inl rfl, ret_flat rfl rfl rfl rfl⟩
set_option maxHeartbeats 4000000 in
theorem where_spec (l : List OpV) (cf : Nat) (caps : List FV) (p : OpV → Bool) (hl : l.length ≤ 1000000000) (hp : ∀ o : OpV, Spec (Try.prog) cf ([.agg o.fv] ++ caps) .fr (.bool (p o))) :
    Spec Try.prog 54 [.list 8 (l.map OpV.fv), .fn cf caps] (.ow 3 1) (.list 1 ((whereTo p l l.length).map intf)) := by
  refine Spec.of_body (c := (cxOf Try.prog tyAt_ok mixed_ok 24)) ⟨Try.func54, rfl, Try.ntmps54, by kernel_rfl⟩ (by simp [FV.hand]) (by exact Nat.le_of_ble_eq_true rfl) rfl ?_
  change FW _ _ _ ⟨[(0, .list 8 (l.map OpV.fv)), (1, .fn cf caps)], []⟩
  (repeat (first | refine FW.seq ?_ | refine FW.region ?_ | refine FW.block ?_ | refine RunN.nil ?_ | refine rn_assign rfl rfl rfl ?_ | refine rn_move rfl rfl rfl ?_ | refine rn_lenList rfl rfl (by first | exact List.length_map _ | exact (List.length_map _).symm | exact List.length_replicate | rfl | (simp; done) | omega | (simp; omega)) rfl rfl ?_))
  refine FW.loop (fun i : Nat => ⟨[(1, .fn cf caps), (5, .own 100 0 0 (whereTo p l i).length), (8, .list 8 (l.map OpV.fv)), (9, .int .i64 l.length), (10, .int .i64 i)], [(100, ⟨0, .own, 3, 1, (whereTo p l i).map intf⟩)]⟩) (fun i => i ≤ l.length) (fun i => l.length - i) 0 (Nat.zero_le _)
    (FLe.conv [⟨100, none, 0, ⟨0, .own, 3, 1, []⟩⟩] (by simp) (by simp) rfl (by repeat (first | exact GhOk.nil | refine GhOk.low rfl ?_ | refine GhOk.same rfl ?_ | refine GhOk.bump (Nat.lt_succ_self _) ?_)) (by repeat (first | exact EntsOk.nil | refine EntsOk.new ?_)) (by repeat (first | exact SlC.nil | refine SlC.cons (.plain rfl rfl (by first | rfl | (simp; done) | (congr 1; omega) | (simp; omega) | (simp [List.take_of_length_le]; done) | (refine congrArg (FV.int .i64) ?_; omega))) ?_ | refine SlC.cons (.nil rfl (.head _) rfl) ?_))) ?_
  intro i hi
  have hwl := whereTo_len p l i
  (repeat (first | refine FW.seq ?_ | refine FW.region ?_ | refine RunN.nil ?_ | refine rn_lss rfl rfl rfl rfl ?_))
  refine FW.cond rfl (fun h => ?_) (fun h => ?_)
  · have hlt : i < l.length := by simpa using h
    clear h
    (repeat (first | refine FW.seq ?_ | refine FW.region ?_ | refine FW.block ?_ | refine FW.skip ?_ | refine RunN.nil ?_ | refine rn_assign rfl rfl rfl ?_ | refine rn_move rfl rfl rfl ?_ | refine rn_indexL rfl rfl (by first | rfl | exact (Int.toNat_of_nonneg (by omega)).symm) rfl rfl rfl (by first | omega | (simp; omega) | (simp; done)) rfl rfl ?_ | refine rn_loadEA rfl rfl rfl (by decide) (by first | omega | (simp; omega) | (simp; done)) (by first | exact getD_map (by omega) | rfl) rfl rfl rfl ?_ | refine rn_loadPA rfl rfl rfl (by decide) rfl rfl (by first | omega | (simp; omega) | (simp; done)) (by first | exact getD_map (by omega) | rfl) rfl rfl rfl ?_ | refine rn_alloc rfl rfl rfl rfl rfl rfl rfl ?_ | refine rn_storeVA rfl rfl rfl rfl rfl rfl rfl rfl rfl ?_))
    refine rn_callV rfl (hp (nth l i)) (by repeat (first | exact ArgsR.nil | refine ArgsR.cons (by first | exact ArgR.plain rfl rfl) ?_)) rfl rfl ?_
    (repeat (first | refine RunN.nil ?_))
    refine FW.cond rfl (fun h => ?_) (fun h => ?_)
    · (repeat (first | refine FW.region ?_ | refine RunN.nil ?_ | refine rn_assign rfl rfl rfl ?_ | refine rn_move rfl rfl rfl ?_ | refine rn_buildS1 rfl rfl rfl rfl rfl rfl rfl rfl ?_ | refine rn_appO rfl rfl (by first | exact List.length_map _ | exact (List.length_map _).symm | exact List.length_replicate | rfl | (simp; done) | omega | (simp; omega)) rfl rfl rfl (by decide) (by first | exact SrcR.own rfl rfl (by decide) (by first | exact List.length_map _ | exact (List.length_map _).symm | exact List.length_replicate | rfl | (simp; done) | omega | (simp; omega)) | exact SrcR.list rfl | exact SrcR.nil rfl | exact SrcR.part rfl rfl (by decide)) (by first | omega | (simp; omega) | (simp; done)) (by first | omega | (simp; omega) | (simp; done)) rfl rfl rfl ?_ | refine rn_add rfl rfl (by omega) rfl rfl ?_))
      refine ⟨i + 1, by omega, by omega, ?_⟩
      rw [whereTo_succ, if_pos h, List.map_append]
      exact (FLe.conv [⟨100, some 21, 1, ⟨0, .own, 3, 1, (whereTo p l i).map intf ++ [(i : Int)].map intf⟩⟩] (by simp) (by simp) rfl (by repeat (first | exact GhOk.nil | refine GhOk.low rfl ?_ | refine GhOk.same rfl ?_ | refine GhOk.bump (Nat.lt_succ_self _) ?_)) (by repeat (first | exact EntsOk.nil | refine EntsOk.old rfl (by decide) (by first | rfl | (simp; done) | (congr 1; omega) | (simp; omega) | (simp [List.take_of_length_le]; done) | (refine congrArg (FV.int .i64) ?_; omega)) ?_)) (by repeat (first | exact SlC.nil | refine SlC.cons (.plain rfl rfl (by first | rfl | (simp; done) | (congr 1; omega) | (simp; omega) | (simp [List.take_of_length_le]; done) | (refine congrArg (FV.int .i64) ?_; omega))) ?_ | refine SlC.cons (.own rfl (.head _) rfl (by first | rfl | (simp; done) | (congr 1; omega) | (simp; omega) | (simp [List.take_of_length_le]; done) | (refine congrArg (FV.int .i64) ?_; omega))) ?_)))
    · (repeat (first | refine FW.region ?_ | refine FW.skip ?_ | refine RunN.nil ?_ | refine rn_move rfl rfl rfl ?_ | refine rn_add rfl rfl (by omega) rfl rfl ?_))
      refine ⟨i + 1, by omega, by omega, ?_⟩
      rw [whereTo_succ, if_neg (by rw [h]; decide), List.append_nil]
      exact (FLe.conv [⟨100, some 100, 0, ⟨0, .own, 3, 1, (whereTo p l i).map intf⟩⟩] (by simp) (by simp) rfl (by repeat (first | exact GhOk.nil | refine GhOk.low rfl ?_ | refine GhOk.same rfl ?_ | refine GhOk.bump (Nat.lt_succ_self _) ?_)) (by repeat (first | exact EntsOk.nil | refine EntsOk.old rfl (by decide) (by first | rfl | (simp; done) | (congr 1; omega) | (simp; omega) | (simp [List.take_of_length_le]; done) | (refine congrArg (FV.int .i64) ?_; omega)) ?_)) (by repeat (first | exact SlC.nil | refine SlC.cons (.plain rfl rfl (by first | rfl | (simp; done) | (congr 1; omega) | (simp; omega) | (simp [List.take_of_length_le]; done) | (refine congrArg (FV.int .i64) ?_; omega))) ?_ | refine SlC.cons (.own rfl (.head _) rfl (by first | rfl | (simp; done) | (congr 1; omega) | (simp; omega) | (simp [List.take_of_length_le]; done) | (refine congrArg (FV.int .i64) ?_; omega))) ?_)))
  · have : i = l.length := by simp at h; omega
    subst this
    (repeat (first | refine FW.seq ?_ | refine FW.region ?_ | refine FW.exit ?_ | refine RunN.nil ?_ | refine rn_assign rfl rfl rfl ?_ | refine rn_move rfl rfl rfl ?_))
    exact FW.ret ⟨.inl rfl, ret_ow rfl rfl rfl (by simp) (by decide) rfl (intT.flatsM _)⟩
theorem ofKey_spec (l : List OpV) (key : Int) (hl : l.length ≤ 1000000000) : Spec Try.prog 21 [.list 8 (l.map OpV.fv), .int .i64 key] (.ow 3 1) (.list 1 ((whereTo (byKey key) l l.length).map intf)) := by
  refine Spec.of_body (c := (cxOf Try.prog tyAt_ok mixed_ok 8)) ⟨Try.func21, rfl, Try.ntmps21, by kernel_rfl⟩ (by simp [FV.hand]) (by exact Nat.le_of_ble_eq_true rfl) rfl ?_
  change FW _ _ _ ⟨[(0, .list 8 (l.map OpV.fv)), (1, .int .i64 key)], []⟩
  (repeat (first | refine FW.seq ?_ | refine FW.region ?_ | refine RunN.nil ?_ | refine rn_box1 rfl rfl rfl rfl rfl ?_ | refine rn_assign rfl rfl rfl ?_ | refine rn_move rfl rfl rfl ?_))
  refine RunN.le ?_ (FLe.shareP 3 rfl rfl)
  (repeat (first | refine rn_makeFn1 rfl rfl rfl rfl ?_))
  refine rn_callO (where_spec l 55 [.eptr 1 [[.int .i64 key]] 0 0] (byKey key) hl (ofKey1_spec key)) (by repeat (first | exact ArgsR.nil | refine ArgsR.cons (by first | exact ArgR.plain rfl rfl) ?_)) (List.length_map _) rfl rfl rfl ?_
  (repeat (first | refine RunN.nil ?_ | refine rn_assign rfl rfl rfl ?_))
  exact FW.ret ⟨.inl rfl, ret_ow rfl rfl rfl (by simp) (by decide) rfl (intT.flatsM _)⟩
end Go.Proofs.Ytflkbehbenlhaaa
/-
  The reference's Only, at plain values.
-/
namespace Go.Proofs.Ytflkbehbenlhaaa
set_option linter.unusedVariables false
open Go.RowKit

def inL (l : List OpV) (i : Int) : Bool := decide (0 ≤ i) && decide (i < l.length)
def onlyI (l : List OpV) (idx : List Int) : List OpV := (idx.filter (inL l)).map fun i => nth l i.toNat
theorem onlyI_len (l : List OpV) (idx : List Int) : (onlyI l idx).length ≤ idx.length := by unfold onlyI; rw [List.length_map]; exact List.length_filter_le _ _
theorem onlyI_succ (l : List OpV) (idx : List Int) (i : Nat) (h : i < idx.length) : onlyI l (idx.take (i + 1)) = onlyI l (idx.take i) ++ (if inL l (nth idx i) = true then [nth l (nth idx i).toNat] else []) := by
  unfold onlyI
  rw [List.take_succ_eq_append_getElem h, List.filter_append, List.map_append, nth_eq h]
  congr 1
  by_cases hx : inL l idx[i] = true <;> simp [hx]
end Go.Proofs.Ytflkbehbenlhaaa
/-
  The parts of a generated history: each is a history, and they make up the whole.
-/
namespace Go.Proofs.Ytflkbehbenlhaaa
set_option linter.unusedVariables false

theorem only_where (l : List OpV) (p : OpV → Bool) : onlyI l (whereTo p l l.length) = l.filter p := by
  have key : ∀ n, n ≤ l.length → onlyI l (whereTo p l n) = (l.take n).filter p := by
    intro n
    induction n with
    | zero => intro _; simp [onlyI, whereTo]
    | succ n ih =>
      intro hn
      have hn' : n < l.length := by omega
      rw [whereTo_succ, List.take_succ_eq_append_getElem hn', List.filter_append, ← ih (by omega), ← nth_eq hn']
      unfold onlyI
      rw [List.filter_append, List.map_append]
      congr 1
      by_cases hp : p (nth l n) = true
      · rw [if_pos hp]
        have hin : inL l (n : Int) = true := by unfold inL; simp; omega
        simp [hin, hp]
      · rw [if_neg hp]
        simp [hp]
  have := key l.length (Nat.le_refl _)
  rwa [List.take_length] at this
theorem where_nth (l : List OpV) (p : OpV → Bool) : ∀ n, n ≤ l.length → (whereTo p l n).Pairwise (· < ·) ∧ ∀ x ∈ whereTo p l n, ∃ j : Nat, x = j ∧ j < n ∧ p (nth l j) = true
  | 0, _ => by simp [whereTo]
  | n + 1, hn => by
    obtain ⟨h1, h2⟩ := where_nth l p n (by omega)
    rw [whereTo_succ]
    by_cases hp : p (nth l n) = true
    · rw [if_pos hp]
      refine ⟨List.pairwise_append.2 ⟨h1, by simp, fun a ha b hb => ?_⟩, fun x hx => ?_⟩
      · obtain ⟨j, rfl, hj, _⟩ := h2 a ha
        rw [List.mem_singleton] at hb
        omega
      · rcases List.mem_append.1 hx with hx | hx
        · obtain ⟨j, e, hj, hpj⟩ := h2 x hx
          exact ⟨j, e, by omega, hpj⟩
        · rw [List.mem_singleton] at hx
          exact ⟨n, hx, by omega, hp⟩
    · rw [if_neg hp, List.append_nil]
      exact ⟨h1, fun x hx => by obtain ⟨j, e, hj, hpj⟩ := h2 x hx; exact ⟨j, e, by omega, hpj⟩⟩
theorem parts_sum (f : OpV → Int) : ∀ (l : List OpV) (K : List Int), K.Nodup → (∀ o ∈ l, f o ∈ K) → (K.map fun k => l.countP fun o => decide (f o = k)).sum = l.length
  | [], K, _, _ => by
    induction K with
    | nil => rfl
    | cons k K ih => simp_all
  | o :: l, K, hn, h => by
    have ih := parts_sum f l K hn fun o ho => h o (by simp [ho])
    have ho := h o (by simp)
    have key : ∀ (K : List Int), K.Nodup → (K.map fun k => (o :: l).countP fun o => decide (f o = k)).sum = (K.map fun k => l.countP fun o => decide (f o = k)).sum + (if f o ∈ K then 1 else 0) := by
      intro K
      induction K with
      | nil => intro _; simp
      | cons k K ih2 =>
        intro hn
        rw [List.nodup_cons] at hn
        rw [List.map_cons, List.sum_cons, List.map_cons, List.sum_cons, ih2 hn.2, List.countP_cons]
        by_cases hk : f o = k
        · subst hk
          simp [hn.1]; omega
        · have : (f o ∈ k :: K) ↔ f o ∈ K := by simp [hk]
          simp only [hk, decide_false, this]
          simp; omega
    rw [key K hn, ih, if_pos ho]
    simp
end Go.Proofs.Ytflkbehbenlhaaa
/-
  simproofref01.Has, at plain values.
-/
namespace Go.Proofs.Ytflkbehbenlhaaa
set_option linter.unusedVariables false
open Go.RowKit
end Go.Proofs.Ytflkbehbenlhaaa
/-
  The keys of a history: the function's and the reference's, at plain values.
-/
namespace Go.Proofs.Ytflkbehbenlhaaa
set_option linter.unusedVariables false
open Go.RowKit

def keysTo (l : List OpV) (i : Nat) : List Int := (l.take i).map OpV.key
def hKeys (l : List OpV) : List Int := Lib.compact ((l.map OpV.key).mergeSort fun x y => decide (x ≤ y))
theorem keysTo_succ (l : List OpV) (i : Nat) (hi : i < l.length) : keysTo l (i + 1) = keysTo l i ++ [(nth l i).key] := by
  unfold keysTo
  rw [List.take_succ_eq_append_getElem hi, List.map_append, nth_eq hi]
  rfl
theorem keysTo_len (l : List OpV) (i : Nat) : (keysTo l i).length ≤ l.length := by unfold keysTo; rw [List.length_map, List.length_take]; omega
set_option maxHeartbeats 4000000 in
theorem hKeys_spec (l : List OpV) (hl : l.length ≤ 1000000000) : Spec Try.prog 17 [.list 8 (l.map OpV.fv)] (.ow 3 1) (.list 1 ((hKeys l).map intf)) := by
  refine Spec.of_body (c := (cxOf Try.prog tyAt_ok mixed_ok 22)) ⟨Try.func17, rfl, Try.ntmps17, by kernel_rfl⟩ (by simp [FV.hand]) (by exact Nat.le_of_ble_eq_true rfl) rfl ?_
  change FW _ _ _ ⟨[(0, .list 8 (l.map OpV.fv))], []⟩
  (repeat (first | refine FW.seq ?_ | refine FW.region ?_ | refine FW.block ?_ | refine RunN.nil ?_ | refine rn_assign rfl rfl rfl ?_ | refine rn_move rfl rfl rfl ?_ | refine rn_lenList rfl rfl (by first | exact List.length_map _ | exact (List.length_map _).symm | exact List.length_replicate | rfl | (simp; done) | omega | (simp; omega)) rfl rfl ?_))
  refine FW.loop (fun i : Nat => ⟨[(3, .own 100 0 0 (keysTo l i).length), (6, .list 8 (l.map OpV.fv)), (7, .int .i64 l.length), (8, .int .i64 i)], [(100, ⟨0, .own, 3, 1, (keysTo l i).map intf⟩)]⟩) (fun i => i ≤ l.length) (fun i => l.length - i) 0 (Nat.zero_le _)
    (FLe.conv [⟨100, none, 0, ⟨0, .own, 3, 1, []⟩⟩] (by simp) (by simp) rfl (by repeat (first | exact GhOk.nil | refine GhOk.low rfl ?_ | refine GhOk.same rfl ?_ | refine GhOk.bump (Nat.lt_succ_self _) ?_)) (by repeat (first | exact EntsOk.nil | refine EntsOk.new ?_)) (by repeat (first | exact SlC.nil | refine SlC.cons (.plain rfl rfl (by first | rfl | (simp; done) | (congr 1; omega) | (simp; omega) | (simp [List.take_of_length_le]; done) | (refine congrArg (FV.int .i64) ?_; omega))) ?_ | refine SlC.cons (.nil rfl (.head _) rfl) ?_))) ?_
  intro i hi
  have hkl := keysTo_len l i
  (repeat (first | refine FW.seq ?_ | refine FW.region ?_ | refine RunN.nil ?_ | refine rn_lss rfl rfl rfl rfl ?_))
  refine FW.cond rfl (fun h => ?_) (fun h => ?_)
  · have hlt : i < l.length := by simpa using h
    clear h
    (repeat (first | refine FW.seq ?_ | refine FW.region ?_ | refine FW.block ?_ | refine FW.skip ?_ | refine RunN.nil ?_ | refine rn_assign rfl rfl rfl ?_ | refine rn_move rfl rfl rfl ?_ | refine rn_indexL rfl rfl (by first | rfl | exact (Int.toNat_of_nonneg (by omega)).symm) rfl rfl rfl (by first | omega | (simp; omega) | (simp; done)) rfl rfl ?_ | refine rn_loadP rfl rfl rfl rfl rfl (by first | omega | (simp; omega) | (simp; done)) (by first | exact getD_map (by omega) | rfl) rfl rfl rfl rfl ?_ | refine rn_loadEA rfl rfl rfl (by decide) (by first | omega | (simp; omega) | (simp; done)) (by first | exact getD_map (by omega) | rfl) rfl rfl rfl ?_ | refine rn_alloc rfl rfl rfl rfl rfl rfl rfl ?_ | refine rn_storeVA rfl rfl rfl rfl rfl rfl rfl rfl rfl ?_ | refine rn_fieldP rfl rfl rfl rfl rfl rfl (by decide) rfl rfl ?_ | refine rn_buildS1 rfl rfl rfl rfl rfl rfl rfl rfl ?_ | refine rn_appO rfl rfl (by first | exact List.length_map _ | exact (List.length_map _).symm | exact List.length_replicate | rfl | (simp; done) | omega | (simp; omega)) rfl rfl rfl (by decide) (by first | exact SrcR.own rfl rfl (by decide) (by first | exact List.length_map _ | exact (List.length_map _).symm | exact List.length_replicate | rfl | (simp; done) | omega | (simp; omega)) | exact SrcR.list rfl | exact SrcR.nil rfl | exact SrcR.part rfl rfl (by decide)) (by first | omega | (simp; omega) | (simp; done)) (by first | omega | (simp; omega) | (simp; done)) rfl rfl rfl ?_ | refine rn_add rfl rfl (by omega) rfl rfl ?_))
    refine ⟨i + 1, by omega, by omega, ?_⟩
    rw [keysTo_succ l i hlt, List.map_append]
    exact (FLe.conv [⟨100, some 16, 1, ⟨0, .own, 3, 1, (keysTo l i).map intf ++ [(nth l i).key].map intf⟩⟩] (by simp) (by simp) rfl (by repeat (first | exact GhOk.nil | refine GhOk.low rfl ?_ | refine GhOk.same rfl ?_ | refine GhOk.bump (Nat.lt_succ_self _) ?_)) (by repeat (first | exact EntsOk.nil | refine EntsOk.old rfl (by decide) (by first | rfl | (simp; done) | (congr 1; omega) | (simp; omega) | (simp [List.take_of_length_le]; done) | (refine congrArg (FV.int .i64) ?_; omega)) ?_)) (by repeat (first | exact SlC.nil | refine SlC.cons (.plain rfl rfl (by first | rfl | (simp; done) | (congr 1; omega) | (simp; omega) | (simp [List.take_of_length_le]; done) | (refine congrArg (FV.int .i64) ?_; omega))) ?_ | refine SlC.cons (.own rfl (.head _) rfl (by first | rfl | (simp; done) | (congr 1; omega) | (simp; omega) | (simp [List.take_of_length_le]; done) | (refine congrArg (FV.int .i64) ?_; omega))) ?_)))
  · have : i = l.length := by simp at h; omega
    subst this
    have hk : keysTo l l.length = l.map OpV.key := by unfold keysTo; rw [List.take_length]
    rw [hk]
    have hlen : ((l.map OpV.key).mergeSort fun x y => decide (x ≤ y)).length = (l.map OpV.key).length := List.length_mergeSort _
    (repeat (first | refine FW.seq ?_ | refine FW.region ?_ | refine FW.exit ?_ | refine rn_move rfl rfl rfl ?_))
    refine rn_callL (sort_specL 0 (l.map OpV.key) (by simp; omega)) [(5000, 100)] rfl (LendOk.cons rfl rfl rfl LendOk.nil) rfl rfl rfl rfl rfl rfl ?_
    rintro _ _ ⟨rfl, h1⟩
    refine After.one [(100, ⟨0, .own, 3, 1, ((l.map OpV.key).mergeSort fun x y => decide (x ≤ y)).map intf⟩)] (.tup []) rfl (congrArg (fun b => [(100, FObj.ren (gOf [(5000, 100)]) b)]) h1) ?_
    (repeat (first | refine FW.seq ?_ | refine FW.region ?_ | refine RunN.nil ?_ | refine rn_move rfl rfl rfl ?_))
    refine rn_callL (compact_specL 0 ((l.map OpV.key).mergeSort fun x y => decide (x ≤ y)) (by rw [hlen]; simp; omega)) [(5000, 100)] ?_ (LendOk.cons rfl rfl rfl LendOk.nil) rfl rfl rfl rfl rfl rfl ?_
    · rw [hlen]; rfl
    rintro _ _ ⟨rfl, h1⟩
    refine After.one [(100, ⟨1, .own, 3, 1, (hKeys l).map intf⟩)] (.own 100 1 0 (hKeys l).length) rfl (congrArg (fun b => [(100, FObj.ren (gOf [(5000, 100)]) b)]) h1) ?_
    (repeat (first | refine RunN.nil ?_ | refine rn_assign rfl rfl rfl ?_))
    exact FW.ret ⟨.inl rfl, ret_ow rfl rfl rfl (by simp) (by decide) rfl (intT.flatsM _)⟩

def lead (l : List Int) (x : Int) : Nat := (l.takeWhile fun y => decide (y < x)).length
theorem lead_len (l : List Int) (x : Int) : lead l x ≤ l.length := by
  unfold lead
  exact (List.takeWhile_prefix _).length_le
def insK (l : List Int) (x : Int) : List Int := if x ∈ l then l else l.take (lead l x) ++ [x] ++ l.drop (lead l x)
def rKeysTo (l : List OpV) : Nat → List Int
  | 0 => []
  | i + 1 => insK (rKeysTo l i) (nth l i).key
theorem rKeysTo_len (l : List OpV) : ∀ i, (rKeysTo l i).length ≤ i
  | 0 => Nat.le_refl _
  | i + 1 => by
    have := rKeysTo_len l i
    unfold rKeysTo insK
    split
    · omega
    · have := lead_len (rKeysTo l i) (nth l i).key
      simp; omega
end Go.Proofs.Ytflkbehbenlhaaa
/-
  The two lists of a history's keys are equal: both ascend and have the same members.
-/
namespace Go.Proofs.Ytflkbehbenlhaaa
set_option linter.unusedVariables false
open Go.RowKit

theorem lead_split : ∀ (l : List Int) (x : Int), l.Pairwise (· < ·) → (∀ y ∈ l.take (lead l x), y < x) ∧ ∀ y ∈ l.drop (lead l x), x ≤ y
  | [], x, _ => by simp
  | z :: l, x, h => by
    rw [List.pairwise_cons] at h
    unfold lead
    rw [List.takeWhile_cons]
    by_cases hz : z < x
    · rw [if_pos (by simpa using hz)]
      have ih := lead_split l x h.2
      unfold lead at ih
      rw [List.length_cons, List.take_succ_cons, List.drop_succ_cons]
      refine ⟨fun y hy => ?_, ih.2⟩
      rcases List.mem_cons.1 hy with rfl | hy
      · exact hz
      · exact ih.1 y hy
    · rw [if_neg (by simpa using hz)]
      refine ⟨by simp, fun y hy => ?_⟩
      rcases List.mem_cons.1 (by simpa using hy) with rfl | hy
      · omega
      · have := h.1 y hy; omega
theorem insK_asc {l : List Int} {x : Int} (h : l.Pairwise (· < ·)) : (insK l x).Pairwise (· < ·) := by
  unfold insK
  split
  · exact h
  · rename_i hx
    obtain ⟨h1, h2⟩ := lead_split l x h
    have hd : ∀ y ∈ l.drop (lead l x), x < y := fun y hy => by
      have := h2 y hy
      have hne : x ≠ y := fun e => hx (by rw [e]; exact List.mem_of_mem_drop hy)
      omega
    have ht := h.take (i := lead l x)
    have hdr := h.drop (i := lead l x)
    refine List.pairwise_append.2 ⟨List.pairwise_append.2 ⟨ht, by simp, fun a ha b hb => ?_⟩, hdr, fun a ha b hb => ?_⟩
    · rw [List.mem_singleton] at hb; subst hb; exact h1 a ha
    · rcases List.mem_append.1 ha with ha | ha
      · have := h1 a ha; have := hd b hb; omega
      · rw [List.mem_singleton] at ha; subst ha; exact hd b hb
theorem insK_mem {l : List Int} {x y : Int} : y ∈ insK l x ↔ y ∈ l ∨ y = x := by
  unfold insK
  split
  · rename_i h
    constructor
    · exact fun h => .inl h
    · rintro (h' | rfl)
      · exact h'
      · exact h
  · have e : l = l.take (lead l x) ++ l.drop (lead l x) := (List.take_append_drop _ _).symm
    conv => rhs; rw [e]
    simp only [List.mem_append, List.mem_singleton]
    constructor
    · rintro ((h | h) | h)
      · exact .inl (.inl h)
      · exact .inr h
      · exact .inl (.inr h)
    · rintro ((h | h) | h)
      · exact .inl (.inl h)
      · exact .inr h
      · exact .inl (.inr h)
theorem rKeysTo_asc (l : List OpV) : ∀ i, (rKeysTo l i).Pairwise (· < ·)
  | 0 => List.Pairwise.nil
  | i + 1 => insK_asc (rKeysTo_asc l i)
theorem rKeysTo_mem (l : List OpV) (y : Int) : ∀ i, i ≤ l.length → (y ∈ rKeysTo l i ↔ y ∈ keysTo l i)
  | 0, _ => by simp [rKeysTo, keysTo]
  | i + 1, h => by
    rw [rKeysTo, insK_mem, rKeysTo_mem l y i (by omega), keysTo_succ l i (by omega)]
    simp

theorem hKeys_asc (l : List OpV) : (hKeys l).Pairwise (· < ·) := compact_asc (sorted_ms _)
theorem hKeys_mem (l : List OpV) (y : Int) : y ∈ hKeys l ↔ ∃ o ∈ l, o.key = y := by
  unfold hKeys
  rw [compact_mem, List.mem_mergeSort, List.mem_map]
theorem hKeys_eq (l : List OpV) : hKeys l = rKeysTo l l.length := by
  refine asc_eq (hKeys_asc l) (rKeysTo_asc l _) fun x => ?_
  rw [rKeysTo_mem l x l.length (Nat.le_refl _), hKeys_mem]
  unfold keysTo
  rw [List.take_length, List.mem_map]
end Go.Proofs.Ytflkbehbenlhaaa
