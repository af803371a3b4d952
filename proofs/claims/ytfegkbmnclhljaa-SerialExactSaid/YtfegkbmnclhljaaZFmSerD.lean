/-
  The reference's Domain.
-/
import Derived.Test.YtfegkbmnclhljaaZFmSerX
import Derived.Test.YtfegkbmnclhljaaZFmQt
namespace Go.Proofs.Ytfegkbmnclhljaa
set_option linter.unusedVariables false
open Go.RowKit

def badK (o : OpV) : Bool := (decide (o.k ≠ 0) && decide (o.k ≠ 2)) || (decide (o.k = 2) && decide (o.arg = 0))
def badC (l : List OpV) (i k : Nat) : Bool := (decide ((k : Int) ≠ (i : Int)) && decide ((nth l i).k = 2) && decide ((nth l k).arg = (nth l i).arg)) || ((nth l i).done && !(nth l k).done && decide ((nth l k).arg = (nth l i).res))
def badP (l : List OpV) (i k : Nat) : Bool := !(decide ((nth l k).k ≠ 2) || decide ((nth l k).key ≠ (nth l i).key)) && badC l i k
def badI (l : List OpV) (i : Nat) : Bool := badK (nth l i) || (List.range l.length).any (badP l i)
theorem any_snoc {p : Nat → Bool} {i : Nat} (h : (List.range i).any p = false) : (List.range (i + 1)).any p = p i := by rw [List.range_succ, List.any_append, h]; simp
theorem domR_iff (l : List OpV) : (List.range l.length).any (badI l) = !dom22 l := by
  have h : (List.range l.length).any (badI l) = false ↔ Dom22 l := by
    rw [List.any_eq_false]
    simp only [List.mem_range, badI, badK, badP, badC, Bool.or_eq_true, Bool.and_eq_true, decide_eq_true_eq, Bool.not_eq_true', Bool.or_eq_false_iff, decide_eq_false_iff_not, List.any_eq_true, not_or, not_exists, not_and, Classical.not_not]
    constructor
    · intro h
      refine ⟨fun i hi => ?_, fun i hi h2 => (h i hi).1.2 h2, fun i j hi hj h1 h2 hk ha => ?_, fun i k hi hk h1 h2 hd ha => ?_⟩
      · by_cases h0 : (nth l i).k = 0
        · exact .inl h0
        · exact .inr ((h i hi).1.1 h0)
      · by_cases e : i = j
        · exact e
        · exact absurd ha (((h j hj).2 i hi ⟨h1, hk⟩).1 ⟨by omega, h2⟩)
      · cases hq : (nth l k).done with
        | true => rfl
        | false => exact absurd ha (((h i hi).2 k hk ⟨h1, h2⟩).2 ⟨hd, hq⟩)
    · intro h i hi
      refine ⟨⟨fun h0 => (h.kind i hi).resolve_left h0, fun h2 => h.arg i hi h2⟩, fun k hk ⟨h1, h2⟩ => ⟨fun ⟨h3, h4⟩ ha => ?_, fun ⟨hd, hq⟩ ha => ?_⟩⟩
      · have := h.uniq k i hk hi h1 h4 h2 ha
        omega
      · have := h.pend i k hi hk h1 h2 hd ha
        rw [hq] at this; cases this
  cases hd : dom22 l with
  | true => exact h.2 (dom22_iff.1 hd)
  | false =>
    cases hr : (List.range l.length).any (badI l) with
    | true => rfl
    | false => have := dom22_iff.2 (h.1 hr); rw [hd] at this; cases this
theorem thenF_ne {next : FSt → Prop} {Q : Exit → FSt → Prop} {e : Exit} {s : FSt} (he : e ≠ .normal) (h : Q e s) : thenF next Q e s := by
  cases e with
  | normal => exact absurd rfl he
  | _ => exact h
theorem FW.joinQ {c : Ctx} {s : FSt} {Q : Exit → FSt → Prop} {x y : Code} {ι : Type} (fam : ι → FSt) (pre : ι → Prop) (h1 : FW c x (fun e s' => (e = .normal ∧ ∃ i, pre i ∧ FLe s' (fam i)) ∨ (e ≠ .normal ∧ Q e s')) s) (h2 : ∀ i, pre i → FW c y Q (fam i)) : FW c x (thenF (FW c y Q) Q) s :=
  h1.mono fun e s' h => by
    rcases h with ⟨rfl, i, hp, hle⟩ | ⟨he, hq⟩
    · exact (h2 i hp).le hle
    · exact thenF_ne he hq
set_option maxHeartbeats 8000000 in
theorem rDomain_spec (l : List OpV) (hl : l.length ≤ 1000) : Spec Try.prog 18 [.list 8 (l.map OpV.fv)] .fr (.int .i64 (resE l)) := by
  obtain ⟨R, hR⟩ : ∃ R, resE l = R := ⟨_, rfl⟩
  have hbd : (List.range l.length).any (badI l) = true → R = 22 := fun h => by
    rw [domR_iff] at h
    rw [← hR]; unfold resE; rw [if_neg (by simpa using h)]
  have hgd : (List.range l.length).any (badI l) = false → R = 0 := fun h => by
    rw [domR_iff] at h
    rw [← hR]; unfold resE; rw [if_pos (by simpa using h)]
  rw [hR]
  refine Spec.of_body (c := (cxOf Try.prog tyAt_ok mixed_ok 118)) ⟨Try.func18, rfl, Try.ntmps18, by kernel_rfl⟩ (by simp [FV.hand]) (by exact Nat.le_of_ble_eq_true rfl) rfl ?_
  change FW _ _ _ ⟨[(0, .list 8 (l.map OpV.fv))], []⟩
  (repeat (first | refine FW.seq ?_ | refine FW.region ?_ | refine FW.block ?_ | refine RunN.nil ?_ | refine rn_assign rfl rfl rfl ?_))
  refine FW.loop (fun i : Nat => ⟨[(0, .list 8 (l.map OpV.fv)), (3, .int .i64 i)], []⟩) (fun i => i ≤ l.length ∧ (List.range i).any (badI l) = false) (fun i => l.length - i) 0 ⟨Nat.zero_le _, rfl⟩ ?_ ?_
  · show FLe _ ⟨[(0, .list 8 (l.map OpV.fv)), (3, .int .i64 0)], []⟩
    exact (FLe.conv [] (by simp) (by simp) rfl (by repeat (first | exact GhOk.nil | refine GhOk.low rfl ?_ | refine GhOk.same rfl ?_ | refine GhOk.bump (Nat.lt_succ_self _) ?_)) (by repeat (first | exact EntsOk.nil)) (by repeat (first | exact SlC.nil | refine SlC.cons (.plain rfl rfl rfl) ?_)))
  rintro i ⟨hi, hany⟩
  (repeat (first | refine FW.seq ?_ | refine FW.region ?_ | refine RunN.nil ?_ | refine rn_move rfl rfl rfl ?_ | refine rn_lenList rfl rfl (by exact List.length_map _) rfl rfl ?_ | refine rn_lss rfl rfl rfl rfl ?_))
  refine FW.cond rfl (fun hc => ?_) (fun hc => ?_)
  · have hi2 : i < l.length := by simpa using hc
    have hsi := any_snoc hany
    have hbadI : badI l i = true → R = 22 := fun h => hbd (List.any_eq_true.2 ⟨i, List.mem_range.2 hi2, h⟩)
    refine FW.skip ?_
    refine FW.seq ?_
    refine FW.block ?_
    refine FW.seq ?_
    refine FW.joinQ (fun _ : Unit => ⟨[(0, .list 8 (l.map OpV.fv)), (3, .int .i64 i)], []⟩) (fun _ => badK (nth l i) = false) ?_ ?_
    · (repeat (first | refine FW.seq ?_ | refine FW.region ?_ | refine rn_move rfl rfl rfl ?_ | refine rn_indexL rfl rfl rfl rfl rfl rfl (by simp; omega) rfl rfl ?_ | refine rn_fieldE rfl rfl rfl rfl rfl rfl rfl ?_ | refine rn_loadE rfl rfl rfl (by simp; omega) (by first | exact getD_map (by omega) | rfl) rfl rfl rfl rfl ?_ | refine rn_neq rfl rfl rfl rfl ?_))
      refine rn_case (fun a1 => ?_) (fun a1 => ?_)
      · (repeat (first | refine rn_move rfl rfl rfl ?_ | refine rn_pickT rfl rfl rfl rfl ?_ | refine rn_move rfl rfl ⟨_, _, rfl, rfl, rfl⟩ ?_ | refine rn_indexL rfl rfl rfl rfl rfl rfl (by simp; omega) rfl ⟨_, _, rfl, rfl, rfl⟩ ?_ | refine rn_fieldE rfl rfl rfl rfl rfl rfl ⟨_, _, rfl, rfl, rfl⟩ ?_ | refine rn_loadE rfl rfl rfl (by simp; omega) (by first | exact getD_map (by omega) | rfl) rfl rfl rfl ⟨_, _, rfl, rfl, rfl⟩ ?_ | refine rn_neq rfl rfl rfl ⟨_, _, rfl, rfl, rfl⟩ ?_))
        refine rn_case (fun a2 => ?_) (fun a2 => ?_)
        · skip
          have hk : badK (nth l i) = true := by unfold badK; rw [a1, a2]; rfl
          have : R = 22 := hbadI (by unfold badI; rw [hk, Bool.true_or])
          subst this
          (repeat (first | refine FW.seq ?_ | refine FW.region ?_ | refine FW.condT rfl ?_ | refine RunN.nil ?_ | refine rn_assign rfl rfl rfl ?_ | refine rn_pickT rfl rfl rfl rfl ?_ | refine rn_skip rfl rfl ⟨_, _, rfl, rfl, rfl⟩ ?_))
          exact FW.ret (.inr ⟨(fun h => by cases h), ⟨.inl rfl, ret_flat rfl rfl rfl rfl⟩⟩)
        · skip
          (repeat (first | refine rn_move rfl rfl ⟨_, _, rfl, rfl, rfl⟩ ?_ | refine rn_indexL rfl rfl rfl rfl rfl rfl (by simp; omega) rfl ⟨_, _, rfl, rfl, rfl⟩ ?_ | refine rn_fieldE rfl rfl rfl rfl rfl rfl ⟨_, _, rfl, rfl, rfl⟩ ?_ | refine rn_loadE rfl rfl rfl (by simp; omega) (by first | exact getD_map (by omega) | rfl) rfl rfl rfl ⟨_, _, rfl, rfl, rfl⟩ ?_ | refine rn_eql rfl rfl rfl ⟨_, _, rfl, rfl, rfl⟩ ?_))
          refine rn_case (fun a3 => ?_) (fun a3 => ?_)
          · (repeat (first | refine RunN.nil ?_ | refine rn_pickF rfl rfl rfl rfl ?_ | refine rn_move rfl rfl ⟨_, _, rfl, rfl, rfl⟩ ?_ | refine rn_indexL rfl rfl rfl rfl rfl rfl (by simp; omega) rfl ⟨_, _, rfl, rfl, rfl⟩ ?_ | refine rn_fieldE rfl rfl rfl rfl rfl rfl ⟨_, _, rfl, rfl, rfl⟩ ?_ | refine rn_loadE rfl rfl rfl (by simp; omega) (by first | exact getD_map (by omega) | rfl) rfl rfl rfl ⟨_, _, rfl, rfl, rfl⟩ ?_ | refine rn_eql rfl rfl rfl ⟨_, _, rfl, rfl, rfl⟩ ?_ | refine rn_pickT rfl rfl rfl ⟨_, _, rfl, rfl, rfl⟩ ?_))
            refine FW.cond rfl (fun a4 => ?_) (fun a4 => ?_)
            · have a4 : decide ((nth l i).arg = 0) = true := a4
              have hk : badK (nth l i) = true := by unfold badK; rw [a1, a2, a3, a4]; rfl
              have : R = 22 := hbadI (by unfold badI; rw [hk, Bool.true_or])
              subst this
              (repeat (first | refine FW.seq ?_ | refine FW.region ?_ | refine RunN.nil ?_ | refine rn_assign rfl rfl rfl ?_))
              exact FW.ret (.inr ⟨(fun h => by cases h), ⟨.inl rfl, ret_flat rfl rfl rfl rfl⟩⟩)
            · have a4 : decide ((nth l i).arg = 0) = false := a4
              have hk : badK (nth l i) = false := by unfold badK; rw [a1, a2, a3, a4]; rfl
              (repeat (first | refine FW.skip ?_))
              refine .inl ⟨rfl, (), hk, ?_⟩
              exact (FLe.conv [] (by simp) (by simp) rfl (by repeat (first | exact GhOk.nil | refine GhOk.low rfl ?_ | refine GhOk.same rfl ?_ | refine GhOk.bump (Nat.lt_succ_self _) ?_)) (by repeat (first | exact EntsOk.nil)) (by repeat (first | exact SlC.nil | refine SlC.cons (.plain rfl rfl rfl) ?_)))
          · skip
            have hk : badK (nth l i) = false := by unfold badK; rw [a1, a2, a3]; rfl
            (repeat (first | refine FW.skip ?_ | refine FW.condF rfl ?_ | refine RunN.nil ?_ | refine rn_pickF rfl rfl rfl rfl ?_ | refine rn_pickF rfl rfl rfl ⟨_, _, rfl, rfl, rfl⟩ ?_ | refine rn_skip rfl rfl ⟨_, _, rfl, rfl, rfl⟩ ?_))
            refine .inl ⟨rfl, (), hk, ?_⟩
            exact (FLe.conv [] (by simp) (by simp) rfl (by repeat (first | exact GhOk.nil | refine GhOk.low rfl ?_ | refine GhOk.same rfl ?_ | refine GhOk.bump (Nat.lt_succ_self _) ?_)) (by repeat (first | exact EntsOk.nil)) (by repeat (first | exact SlC.nil | refine SlC.cons (.plain rfl rfl rfl) ?_)))
      · skip
        (repeat (first | refine rn_move rfl rfl rfl ?_ | refine rn_pickF rfl rfl rfl rfl ?_ | refine rn_move rfl rfl ⟨_, _, rfl, rfl, rfl⟩ ?_ | refine rn_indexL rfl rfl rfl rfl rfl rfl (by first | omega | (simp; omega)) rfl ⟨_, _, rfl, rfl, rfl⟩ ?_ | refine rn_fieldE rfl rfl rfl rfl rfl rfl ⟨_, _, rfl, rfl, rfl⟩ ?_ | refine rn_loadE rfl rfl rfl (by first | omega | (simp; omega)) (by first | exact getD_map (by omega) | rfl) rfl rfl rfl ⟨_, _, rfl, rfl, rfl⟩ ?_ | refine rn_eql rfl rfl rfl ⟨_, _, rfl, rfl, rfl⟩ ?_ | refine rn_skip rfl rfl ⟨_, _, rfl, rfl, rfl⟩ ?_))
        refine rn_case (fun a3 => ?_) (fun a3 => ?_)
        · (repeat (first | refine RunN.nil ?_ | refine rn_pickF rfl rfl rfl rfl ?_ | refine rn_move rfl rfl ⟨_, _, rfl, rfl, rfl⟩ ?_ | refine rn_indexL rfl rfl rfl rfl rfl rfl (by simp; omega) rfl ⟨_, _, rfl, rfl, rfl⟩ ?_ | refine rn_fieldE rfl rfl rfl rfl rfl rfl ⟨_, _, rfl, rfl, rfl⟩ ?_ | refine rn_loadE rfl rfl rfl (by simp; omega) (by first | exact getD_map (by omega) | rfl) rfl rfl rfl ⟨_, _, rfl, rfl, rfl⟩ ?_ | refine rn_eql rfl rfl rfl ⟨_, _, rfl, rfl, rfl⟩ ?_ | refine rn_pickT rfl rfl rfl ⟨_, _, rfl, rfl, rfl⟩ ?_))
          refine FW.cond rfl (fun a4 => ?_) (fun a4 => ?_)
          · have a4 : decide ((nth l i).arg = 0) = true := a4
            have hk : badK (nth l i) = true := by unfold badK; rw [a1, a3, a4]; rfl
            have : R = 22 := hbadI (by unfold badI; rw [hk, Bool.true_or])
            subst this
            (repeat (first | refine FW.seq ?_ | refine FW.region ?_ | refine RunN.nil ?_ | refine rn_assign rfl rfl rfl ?_))
            exact FW.ret (.inr ⟨(fun h => by cases h), ⟨.inl rfl, ret_flat rfl rfl rfl rfl⟩⟩)
          · have a4 : decide ((nth l i).arg = 0) = false := a4
            have hk : badK (nth l i) = false := by unfold badK; rw [a1, a3, a4]; rfl
            (repeat (first | refine FW.skip ?_))
            refine .inl ⟨rfl, (), hk, ?_⟩
            exact (FLe.conv [] (by simp) (by simp) rfl (by repeat (first | exact GhOk.nil | refine GhOk.low rfl ?_ | refine GhOk.same rfl ?_ | refine GhOk.bump (Nat.lt_succ_self _) ?_)) (by repeat (first | exact EntsOk.nil)) (by repeat (first | exact SlC.nil | refine SlC.cons (.plain rfl rfl rfl) ?_)))
        · skip
          have hk : badK (nth l i) = false := by unfold badK; rw [a1, a3]; rfl
          (repeat (first | refine FW.skip ?_ | refine FW.condF rfl ?_ | refine RunN.nil ?_ | refine rn_pickF rfl rfl rfl rfl ?_ | refine rn_pickF rfl rfl rfl ⟨_, _, rfl, rfl, rfl⟩ ?_ | refine rn_skip rfl rfl ⟨_, _, rfl, rfl, rfl⟩ ?_))
          refine .inl ⟨rfl, (), hk, ?_⟩
          exact (FLe.conv [] (by simp) (by simp) rfl (by repeat (first | exact GhOk.nil | refine GhOk.low rfl ?_ | refine GhOk.same rfl ?_ | refine GhOk.bump (Nat.lt_succ_self _) ?_)) (by repeat (first | exact EntsOk.nil)) (by repeat (first | exact SlC.nil | refine SlC.cons (.plain rfl rfl rfl) ?_)))
    rintro _ hK
    have hbad : (List.range l.length).any (badP l i) = true → R = 22 := fun h => hbadI (by unfold badI; rw [h, Bool.or_true])
    (repeat (first | refine FW.seq ?_ | refine FW.region ?_ | refine FW.block ?_ | refine RunN.nil ?_ | refine rn_assign rfl rfl rfl ?_))
    refine FW.loop (fun j : Nat => ⟨[(0, .list 8 (l.map OpV.fv)), (3, .int .i64 i), (4, .int .i64 j)], []⟩) (fun j => j ≤ l.length ∧ (List.range j).any (badP l i) = false) (fun j => l.length - j) 0 ⟨Nat.zero_le _, rfl⟩ ?_ ?_
    · show FLe _ ⟨[(0, .list 8 (l.map OpV.fv)), (3, .int .i64 i), (4, .int .i64 0)], []⟩
      exact (FLe.conv [] (by simp) (by simp) rfl (by repeat (first | exact GhOk.nil | refine GhOk.low rfl ?_ | refine GhOk.same rfl ?_ | refine GhOk.bump (Nat.lt_succ_self _) ?_)) (by repeat (first | exact EntsOk.nil)) (by repeat (first | exact SlC.nil | refine SlC.cons (.plain rfl rfl rfl) ?_)))
    rintro j ⟨hj, hanj⟩
    have hsu := any_snoc hanj
    (repeat (first | refine FW.seq ?_ | refine FW.region ?_ | refine RunN.nil ?_ | refine rn_move rfl rfl rfl ?_ | refine rn_lenList rfl rfl (by exact List.length_map _) rfl rfl ?_ | refine rn_lss rfl rfl rfl rfl ?_))
    refine FW.cond rfl (fun hc2 => ?_) (fun hc2 => ?_)
    · have hj2 : j < l.length := by simpa using hc2
      (repeat (first | refine FW.seq ?_ | refine FW.block ?_ | refine FW.skip ?_ | refine FW.draw ?_ | refine rd_move rfl rfl rfl ?_ | refine rd_indexL rfl rfl rfl rfl rfl rfl (by simp; omega) rfl rfl ?_ | refine rd_fieldE rfl rfl rfl rfl rfl rfl rfl ?_ | refine rd_loadE rfl rfl rfl (by simp; omega) (by first | exact getD_map (by omega) | rfl) rfl rfl rfl rfl ?_ | refine rd_neq rfl rfl rfl rfl ?_))
      refine rd_case (fun g1 => ?_) (fun g1 => ?_)
      · have hb : badP l i j = false := by unfold badP; rw [g1]; rfl
        rw [hb] at hsu
        (repeat (first | refine RunD.nil ?_ | refine rd_pickT rfl rfl rfl rfl ?_ | refine rd_skip rfl rfl ⟨_, _, rfl, rfl, rfl⟩ ?_))
        refine ⟨by kernel_rfl, ?_⟩
        (repeat (first | refine FW.region ?_ | refine FW.exit ?_ | refine FW.condT rfl ?_ | refine RunN.nil ?_ | refine rn_assign rfl rfl rfl ?_ | refine rn_move rfl rfl rfl ?_ | refine rn_add rfl rfl (by omega) rfl rfl ?_))
        refine ⟨j + 1, ⟨by omega, hsu⟩, by omega, ?_⟩
        exact (FLe.conv [] (by simp) (by simp) rfl (by repeat (first | exact GhOk.nil | refine GhOk.low rfl ?_ | refine GhOk.same rfl ?_ | refine GhOk.bump (Nat.lt_succ_self _) ?_)) (by repeat (first | exact EntsOk.nil)) (by repeat (first | exact SlC.nil | refine SlC.cons (.plain rfl rfl rfl) ?_)))
      (repeat (first | refine RunD.nil ?_ | refine rd_pickF rfl rfl rfl rfl ?_ | refine rd_move rfl rfl ⟨_, _, rfl, rfl, rfl⟩ ?_ | refine rd_indexL rfl rfl rfl rfl rfl rfl (by simp; omega) rfl ⟨_, _, rfl, rfl, rfl⟩ ?_ | refine rd_fieldE rfl rfl rfl rfl rfl rfl ⟨_, _, rfl, rfl, rfl⟩ ?_ | refine rd_loadE rfl rfl rfl (by simp; omega) (by first | exact getD_map (by omega) | rfl) rfl rfl rfl ⟨_, _, rfl, rfl, rfl⟩ ?_ | refine rd_neq rfl rfl rfl ⟨_, _, rfl, rfl, rfl⟩ ?_))
      refine ⟨by kernel_rfl, ?_⟩
      refine FW.cond rfl (fun g2 => ?_) (fun g2 => ?_)
      · have g2 : decide ((nth l j).key ≠ (nth l i).key) = true := g2
        have hb : badP l i j = false := by unfold badP; rw [g1, g2]; rfl
        rw [hb] at hsu
        (repeat (first | refine FW.region ?_ | refine FW.exit ?_ | refine RunN.nil ?_ | refine rn_assign rfl rfl rfl ?_ | refine rn_move rfl rfl rfl ?_ | refine rn_add rfl rfl (by omega) rfl rfl ?_))
        refine ⟨j + 1, ⟨by omega, hsu⟩, by omega, ?_⟩
        exact (FLe.conv [] (by simp) (by simp) rfl (by repeat (first | exact GhOk.nil | refine GhOk.low rfl ?_ | refine GhOk.same rfl ?_ | refine GhOk.bump (Nat.lt_succ_self _) ?_)) (by repeat (first | exact EntsOk.nil)) (by repeat (first | exact SlC.nil | refine SlC.cons (.plain rfl rfl rfl) ?_)))
      have g2 : decide ((nth l j).key ≠ (nth l i).key) = false := g2
      (repeat (first | refine FW.seq ?_ | refine FW.skip ?_ | refine FW.drawQ (by kernel_rfl) ?_ | refine rd_move rfl rfl rfl ?_ | refine rd_neq rfl rfl rfl rfl ?_))
      refine rd_case (fun h1 => ?_) (fun h1 => ?_)
      · (repeat (first | refine rd_move rfl rfl rfl ?_ | refine rd_pickT rfl rfl rfl rfl ?_ | refine rd_move rfl rfl ⟨_, _, rfl, rfl, rfl⟩ ?_ | refine rd_indexL rfl rfl rfl rfl rfl rfl (by simp; omega) rfl ⟨_, _, rfl, rfl, rfl⟩ ?_ | refine rd_fieldE rfl rfl rfl rfl rfl rfl ⟨_, _, rfl, rfl, rfl⟩ ?_ | refine rd_loadE rfl rfl rfl (by simp; omega) (by first | exact getD_map (by omega) | rfl) rfl rfl rfl ⟨_, _, rfl, rfl, rfl⟩ ?_ | refine rd_eql rfl rfl rfl ⟨_, _, rfl, rfl, rfl⟩ ?_))
        refine rd_case (fun h2 => ?_) (fun h2 => ?_)
        · (repeat (first | refine rd_move rfl rfl rfl ?_ | refine rd_pickT rfl rfl rfl rfl ?_ | refine rd_move rfl rfl ⟨_, _, rfl, rfl, rfl⟩ ?_ | refine rd_indexL rfl rfl rfl rfl rfl rfl (by simp; omega) rfl ⟨_, _, rfl, rfl, rfl⟩ ?_ | refine rd_fieldE rfl rfl rfl rfl rfl rfl ⟨_, _, rfl, rfl, rfl⟩ ?_ | refine rd_loadE rfl rfl rfl (by simp; omega) (by first | exact getD_map (by omega) | rfl) rfl rfl rfl ⟨_, _, rfl, rfl, rfl⟩ ?_ | refine rd_eql rfl rfl rfl ⟨_, _, rfl, rfl, rfl⟩ ?_))
          refine rd_case (fun h3 => ?_) (fun h3 => ?_)
          · skip
            have hb : badP l i j = true := by unfold badP badC; rw [g1, g2, h1, h2, h3]; rfl
            have : R = 22 := hbad (List.any_eq_true.2 ⟨j, List.mem_range.2 hj2, hb⟩)
            subst this
            (repeat (first | refine RunD.nil ?_ | refine rd_pickT rfl rfl rfl rfl ?_ | refine rd_skip rfl rfl ⟨_, _, rfl, rfl, rfl⟩ ?_))
            refine ⟨by kernel_rfl, ?_⟩
            (repeat (first | refine FW.seq ?_ | refine FW.region ?_ | refine FW.condT rfl ?_ | refine RunN.nil ?_ | refine rn_assign rfl rfl rfl ?_))
            exact FW.ret ⟨.inl rfl, ret_flat rfl rfl rfl rfl⟩
          · skip
            (repeat (first | refine rd_move rfl rfl ⟨_, _, rfl, rfl, rfl⟩ ?_ | refine rd_indexL rfl rfl rfl rfl rfl rfl (by simp; omega) rfl ⟨_, _, rfl, rfl, rfl⟩ ?_ | refine rd_fieldE rfl rfl rfl rfl rfl rfl ⟨_, _, rfl, rfl, rfl⟩ ?_ | refine rd_loadE rfl rfl rfl (by simp; omega) (by first | exact getD_map (by omega) | rfl) rfl rfl rfl ⟨_, _, rfl, rfl, rfl⟩ ?_))
            refine rd_case (fun c1 => ?_) (fun c1 => ?_)
            · (repeat (first | refine rd_move rfl rfl ⟨_, _, rfl, rfl, rfl⟩ ?_ | refine rd_indexL rfl rfl rfl rfl rfl rfl (by simp; omega) rfl ⟨_, _, rfl, rfl, rfl⟩ ?_ | refine rd_fieldE rfl rfl rfl rfl rfl rfl ⟨_, _, rfl, rfl, rfl⟩ ?_ | refine rd_loadE rfl rfl rfl (by simp; omega) (by first | exact getD_map (by omega) | rfl) rfl rfl rfl ⟨_, _, rfl, rfl, rfl⟩ ?_ | refine rd_pickT rfl rfl rfl ⟨_, _, rfl, rfl, rfl⟩ ?_ | refine rd_not rfl rfl ⟨_, _, rfl, rfl, rfl⟩ ?_))
              refine rd_case (fun c2 => ?_) (fun c2 => ?_)
              · (repeat (first | refine RunD.nil ?_ | refine rd_pickF rfl rfl rfl rfl ?_ | refine rd_move rfl rfl ⟨_, _, rfl, rfl, rfl⟩ ?_ | refine rd_indexL rfl rfl rfl rfl rfl rfl (by simp; omega) rfl ⟨_, _, rfl, rfl, rfl⟩ ?_ | refine rd_fieldE rfl rfl rfl rfl rfl rfl ⟨_, _, rfl, rfl, rfl⟩ ?_ | refine rd_loadE rfl rfl rfl (by simp; omega) (by first | exact getD_map (by omega) | rfl) rfl rfl rfl ⟨_, _, rfl, rfl, rfl⟩ ?_ | refine rd_eql rfl rfl rfl ⟨_, _, rfl, rfl, rfl⟩ ?_ | refine rd_pickT rfl rfl rfl ⟨_, _, rfl, rfl, rfl⟩ ?_))
                refine ⟨by kernel_rfl, ?_⟩
                refine FW.cond rfl (fun c3 => ?_) (fun c3 => ?_)
                · skip
                  have c3 : decide ((nth l j).arg = (nth l i).res) = true := c3
                  have hb : badP l i j = true := by unfold badP badC; rw [g1, g2, h1, h2, h3, c1, c2, c3]; rfl
                  have : R = 22 := hbad (List.any_eq_true.2 ⟨j, List.mem_range.2 hj2, hb⟩)
                  subst this
                  (repeat (first | refine FW.seq ?_ | refine FW.region ?_ | refine RunN.nil ?_ | refine rn_assign rfl rfl rfl ?_))
                  exact FW.ret ⟨.inl rfl, ret_flat rfl rfl rfl rfl⟩
                · skip
                  have c3 : decide ((nth l j).arg = (nth l i).res) = false := c3
                  have hb : badP l i j = false := by unfold badP badC; rw [g1, g2, h1, h2, h3, c1, c2, c3]; rfl
                  rw [hb] at hsu
                  (repeat (first | refine FW.region ?_ | refine FW.skip ?_ | refine RunN.nil ?_ | refine rn_assign rfl rfl rfl ?_ | refine rn_move rfl rfl rfl ?_ | refine rn_add rfl rfl (by omega) rfl rfl ?_))
                  refine ⟨j + 1, ⟨by omega, hsu⟩, by omega, ?_⟩
                  exact (FLe.conv [] (by simp) (by simp) rfl (by repeat (first | exact GhOk.nil | refine GhOk.low rfl ?_ | refine GhOk.same rfl ?_ | refine GhOk.bump (Nat.lt_succ_self _) ?_)) (by repeat (first | exact EntsOk.nil)) (by repeat (first | exact SlC.nil | refine SlC.cons (.plain rfl rfl rfl) ?_)))
              · skip
                have hb : badP l i j = false := by unfold badP badC; rw [g1, g2, h1, h2, h3, c1, c2]; rfl
                rw [hb] at hsu
                (repeat (first | refine RunD.nil ?_ | refine rd_pickF rfl rfl rfl rfl ?_ | refine rd_pickF rfl rfl rfl ⟨_, _, rfl, rfl, rfl⟩ ?_ | refine rd_skip rfl rfl ⟨_, _, rfl, rfl, rfl⟩ ?_))
                refine ⟨by kernel_rfl, ?_⟩
                (repeat (first | refine FW.region ?_ | refine FW.skip ?_ | refine FW.condF rfl ?_ | refine RunN.nil ?_ | refine rn_assign rfl rfl rfl ?_ | refine rn_move rfl rfl rfl ?_ | refine rn_add rfl rfl (by omega) rfl rfl ?_))
                refine ⟨j + 1, ⟨by omega, hsu⟩, by omega, ?_⟩
                exact (FLe.conv [] (by simp) (by simp) rfl (by repeat (first | exact GhOk.nil | refine GhOk.low rfl ?_ | refine GhOk.same rfl ?_ | refine GhOk.bump (Nat.lt_succ_self _) ?_)) (by repeat (first | exact EntsOk.nil)) (by repeat (first | exact SlC.nil | refine SlC.cons (.plain rfl rfl rfl) ?_)))
            · skip
              have hb : badP l i j = false := by unfold badP badC; rw [g1, g2, h1, h2, h3, c1]; rfl
              rw [hb] at hsu
              (repeat (first | refine RunD.nil ?_ | refine rd_pickF rfl rfl rfl rfl ?_ | refine rd_move rfl rfl ⟨_, _, rfl, rfl, rfl⟩ ?_ | refine rd_pickF rfl rfl rfl ⟨_, _, rfl, rfl, rfl⟩ ?_ | refine rd_skip rfl rfl ⟨_, _, rfl, rfl, rfl⟩ ?_))
              refine ⟨by kernel_rfl, ?_⟩
              (repeat (first | refine FW.region ?_ | refine FW.skip ?_ | refine FW.condF rfl ?_ | refine RunN.nil ?_ | refine rn_assign rfl rfl rfl ?_ | refine rn_move rfl rfl rfl ?_ | refine rn_add rfl rfl (by omega) rfl rfl ?_))
              refine ⟨j + 1, ⟨by omega, hsu⟩, by omega, ?_⟩
              exact (FLe.conv [] (by simp) (by simp) rfl (by repeat (first | exact GhOk.nil | refine GhOk.low rfl ?_ | refine GhOk.same rfl ?_ | refine GhOk.bump (Nat.lt_succ_self _) ?_)) (by repeat (first | exact EntsOk.nil)) (by repeat (first | exact SlC.nil | refine SlC.cons (.plain rfl rfl rfl) ?_)))
        · skip
          (repeat (first | refine rd_move rfl rfl rfl ?_ | refine rd_pickF rfl rfl rfl rfl ?_ | refine rd_move rfl rfl ⟨_, _, rfl, rfl, rfl⟩ ?_ | refine rd_indexL rfl rfl rfl rfl rfl rfl (by first | omega | (simp; omega)) rfl ⟨_, _, rfl, rfl, rfl⟩ ?_ | refine rd_fieldE rfl rfl rfl rfl rfl rfl ⟨_, _, rfl, rfl, rfl⟩ ?_ | refine rd_loadE rfl rfl rfl (by first | omega | (simp; omega)) (by first | exact getD_map (by omega) | rfl) rfl rfl rfl ⟨_, _, rfl, rfl, rfl⟩ ?_ | refine rd_skip rfl rfl ⟨_, _, rfl, rfl, rfl⟩ ?_))
          refine rd_case (fun c1 => ?_) (fun c1 => ?_)
          · (repeat (first | refine rd_move rfl rfl ⟨_, _, rfl, rfl, rfl⟩ ?_ | refine rd_indexL rfl rfl rfl rfl rfl rfl (by simp; omega) rfl ⟨_, _, rfl, rfl, rfl⟩ ?_ | refine rd_fieldE rfl rfl rfl rfl rfl rfl ⟨_, _, rfl, rfl, rfl⟩ ?_ | refine rd_loadE rfl rfl rfl (by simp; omega) (by first | exact getD_map (by omega) | rfl) rfl rfl rfl ⟨_, _, rfl, rfl, rfl⟩ ?_ | refine rd_pickT rfl rfl rfl ⟨_, _, rfl, rfl, rfl⟩ ?_ | refine rd_not rfl rfl ⟨_, _, rfl, rfl, rfl⟩ ?_))
            refine rd_case (fun c2 => ?_) (fun c2 => ?_)
            · (repeat (first | refine RunD.nil ?_ | refine rd_pickF rfl rfl rfl rfl ?_ | refine rd_move rfl rfl ⟨_, _, rfl, rfl, rfl⟩ ?_ | refine rd_indexL rfl rfl rfl rfl rfl rfl (by simp; omega) rfl ⟨_, _, rfl, rfl, rfl⟩ ?_ | refine rd_fieldE rfl rfl rfl rfl rfl rfl ⟨_, _, rfl, rfl, rfl⟩ ?_ | refine rd_loadE rfl rfl rfl (by simp; omega) (by first | exact getD_map (by omega) | rfl) rfl rfl rfl ⟨_, _, rfl, rfl, rfl⟩ ?_ | refine rd_eql rfl rfl rfl ⟨_, _, rfl, rfl, rfl⟩ ?_ | refine rd_pickT rfl rfl rfl ⟨_, _, rfl, rfl, rfl⟩ ?_))
              refine ⟨by kernel_rfl, ?_⟩
              refine FW.cond rfl (fun c3 => ?_) (fun c3 => ?_)
              · skip
                have c3 : decide ((nth l j).arg = (nth l i).res) = true := c3
                have hb : badP l i j = true := by unfold badP badC; rw [g1, g2, h1, h2, c1, c2, c3]; rfl
                have : R = 22 := hbad (List.any_eq_true.2 ⟨j, List.mem_range.2 hj2, hb⟩)
                subst this
                (repeat (first | refine FW.seq ?_ | refine FW.region ?_ | refine RunN.nil ?_ | refine rn_assign rfl rfl rfl ?_))
                exact FW.ret ⟨.inl rfl, ret_flat rfl rfl rfl rfl⟩
              · skip
                have c3 : decide ((nth l j).arg = (nth l i).res) = false := c3
                have hb : badP l i j = false := by unfold badP badC; rw [g1, g2, h1, h2, c1, c2, c3]; rfl
                rw [hb] at hsu
                (repeat (first | refine FW.region ?_ | refine FW.skip ?_ | refine RunN.nil ?_ | refine rn_assign rfl rfl rfl ?_ | refine rn_move rfl rfl rfl ?_ | refine rn_add rfl rfl (by omega) rfl rfl ?_))
                refine ⟨j + 1, ⟨by omega, hsu⟩, by omega, ?_⟩
                exact (FLe.conv [] (by simp) (by simp) rfl (by repeat (first | exact GhOk.nil | refine GhOk.low rfl ?_ | refine GhOk.same rfl ?_ | refine GhOk.bump (Nat.lt_succ_self _) ?_)) (by repeat (first | exact EntsOk.nil)) (by repeat (first | exact SlC.nil | refine SlC.cons (.plain rfl rfl rfl) ?_)))
            · skip
              have hb : badP l i j = false := by unfold badP badC; rw [g1, g2, h1, h2, c1, c2]; rfl
              rw [hb] at hsu
              (repeat (first | refine RunD.nil ?_ | refine rd_pickF rfl rfl rfl rfl ?_ | refine rd_pickF rfl rfl rfl ⟨_, _, rfl, rfl, rfl⟩ ?_ | refine rd_skip rfl rfl ⟨_, _, rfl, rfl, rfl⟩ ?_))
              refine ⟨by kernel_rfl, ?_⟩
              (repeat (first | refine FW.region ?_ | refine FW.skip ?_ | refine FW.condF rfl ?_ | refine RunN.nil ?_ | refine rn_assign rfl rfl rfl ?_ | refine rn_move rfl rfl rfl ?_ | refine rn_add rfl rfl (by omega) rfl rfl ?_))
              refine ⟨j + 1, ⟨by omega, hsu⟩, by omega, ?_⟩
              exact (FLe.conv [] (by simp) (by simp) rfl (by repeat (first | exact GhOk.nil | refine GhOk.low rfl ?_ | refine GhOk.same rfl ?_ | refine GhOk.bump (Nat.lt_succ_self _) ?_)) (by repeat (first | exact EntsOk.nil)) (by repeat (first | exact SlC.nil | refine SlC.cons (.plain rfl rfl rfl) ?_)))
          · skip
            have hb : badP l i j = false := by unfold badP badC; rw [g1, g2, h1, h2, c1]; rfl
            rw [hb] at hsu
            (repeat (first | refine RunD.nil ?_ | refine rd_pickF rfl rfl rfl rfl ?_ | refine rd_move rfl rfl ⟨_, _, rfl, rfl, rfl⟩ ?_ | refine rd_pickF rfl rfl rfl ⟨_, _, rfl, rfl, rfl⟩ ?_ | refine rd_skip rfl rfl ⟨_, _, rfl, rfl, rfl⟩ ?_))
            refine ⟨by kernel_rfl, ?_⟩
            (repeat (first | refine FW.region ?_ | refine FW.skip ?_ | refine FW.condF rfl ?_ | refine RunN.nil ?_ | refine rn_assign rfl rfl rfl ?_ | refine rn_move rfl rfl rfl ?_ | refine rn_add rfl rfl (by omega) rfl rfl ?_))
            refine ⟨j + 1, ⟨by omega, hsu⟩, by omega, ?_⟩
            exact (FLe.conv [] (by simp) (by simp) rfl (by repeat (first | exact GhOk.nil | refine GhOk.low rfl ?_ | refine GhOk.same rfl ?_ | refine GhOk.bump (Nat.lt_succ_self _) ?_)) (by repeat (first | exact EntsOk.nil)) (by repeat (first | exact SlC.nil | refine SlC.cons (.plain rfl rfl rfl) ?_)))
      · skip
        (repeat (first | refine rd_move rfl rfl rfl ?_ | refine rd_pickF rfl rfl rfl rfl ?_ | refine rd_move rfl rfl ⟨_, _, rfl, rfl, rfl⟩ ?_ | refine rd_indexL rfl rfl rfl rfl rfl rfl (by first | omega | (simp; omega)) rfl ⟨_, _, rfl, rfl, rfl⟩ ?_ | refine rd_fieldE rfl rfl rfl rfl rfl rfl ⟨_, _, rfl, rfl, rfl⟩ ?_ | refine rd_loadE rfl rfl rfl (by first | omega | (simp; omega)) (by first | exact getD_map (by omega) | rfl) rfl rfl rfl ⟨_, _, rfl, rfl, rfl⟩ ?_ | refine rd_skip rfl rfl ⟨_, _, rfl, rfl, rfl⟩ ?_))
        refine rd_case (fun c1 => ?_) (fun c1 => ?_)
        · (repeat (first | refine rd_move rfl rfl ⟨_, _, rfl, rfl, rfl⟩ ?_ | refine rd_indexL rfl rfl rfl rfl rfl rfl (by simp; omega) rfl ⟨_, _, rfl, rfl, rfl⟩ ?_ | refine rd_fieldE rfl rfl rfl rfl rfl rfl ⟨_, _, rfl, rfl, rfl⟩ ?_ | refine rd_loadE rfl rfl rfl (by simp; omega) (by first | exact getD_map (by omega) | rfl) rfl rfl rfl ⟨_, _, rfl, rfl, rfl⟩ ?_ | refine rd_pickT rfl rfl rfl ⟨_, _, rfl, rfl, rfl⟩ ?_ | refine rd_not rfl rfl ⟨_, _, rfl, rfl, rfl⟩ ?_))
          refine rd_case (fun c2 => ?_) (fun c2 => ?_)
          · (repeat (first | refine RunD.nil ?_ | refine rd_pickF rfl rfl rfl rfl ?_ | refine rd_move rfl rfl ⟨_, _, rfl, rfl, rfl⟩ ?_ | refine rd_indexL rfl rfl rfl rfl rfl rfl (by simp; omega) rfl ⟨_, _, rfl, rfl, rfl⟩ ?_ | refine rd_fieldE rfl rfl rfl rfl rfl rfl ⟨_, _, rfl, rfl, rfl⟩ ?_ | refine rd_loadE rfl rfl rfl (by simp; omega) (by first | exact getD_map (by omega) | rfl) rfl rfl rfl ⟨_, _, rfl, rfl, rfl⟩ ?_ | refine rd_eql rfl rfl rfl ⟨_, _, rfl, rfl, rfl⟩ ?_ | refine rd_pickT rfl rfl rfl ⟨_, _, rfl, rfl, rfl⟩ ?_))
            refine ⟨by kernel_rfl, ?_⟩
            refine FW.cond rfl (fun c3 => ?_) (fun c3 => ?_)
            · skip
              have c3 : decide ((nth l j).arg = (nth l i).res) = true := c3
              have hb : badP l i j = true := by unfold badP badC; rw [g1, g2, h1, c1, c2, c3]; rfl
              have : R = 22 := hbad (List.any_eq_true.2 ⟨j, List.mem_range.2 hj2, hb⟩)
              subst this
              (repeat (first | refine FW.seq ?_ | refine FW.region ?_ | refine RunN.nil ?_ | refine rn_assign rfl rfl rfl ?_))
              exact FW.ret ⟨.inl rfl, ret_flat rfl rfl rfl rfl⟩
            · skip
              have c3 : decide ((nth l j).arg = (nth l i).res) = false := c3
              have hb : badP l i j = false := by unfold badP badC; rw [g1, g2, h1, c1, c2, c3]; rfl
              rw [hb] at hsu
              (repeat (first | refine FW.region ?_ | refine FW.skip ?_ | refine RunN.nil ?_ | refine rn_assign rfl rfl rfl ?_ | refine rn_move rfl rfl rfl ?_ | refine rn_add rfl rfl (by omega) rfl rfl ?_))
              refine ⟨j + 1, ⟨by omega, hsu⟩, by omega, ?_⟩
              exact (FLe.conv [] (by simp) (by simp) rfl (by repeat (first | exact GhOk.nil | refine GhOk.low rfl ?_ | refine GhOk.same rfl ?_ | refine GhOk.bump (Nat.lt_succ_self _) ?_)) (by repeat (first | exact EntsOk.nil)) (by repeat (first | exact SlC.nil | refine SlC.cons (.plain rfl rfl rfl) ?_)))
          · skip
            have hb : badP l i j = false := by unfold badP badC; rw [g1, g2, h1, c1, c2]; rfl
            rw [hb] at hsu
            (repeat (first | refine RunD.nil ?_ | refine rd_pickF rfl rfl rfl rfl ?_ | refine rd_pickF rfl rfl rfl ⟨_, _, rfl, rfl, rfl⟩ ?_ | refine rd_skip rfl rfl ⟨_, _, rfl, rfl, rfl⟩ ?_))
            refine ⟨by kernel_rfl, ?_⟩
            (repeat (first | refine FW.region ?_ | refine FW.skip ?_ | refine FW.condF rfl ?_ | refine RunN.nil ?_ | refine rn_assign rfl rfl rfl ?_ | refine rn_move rfl rfl rfl ?_ | refine rn_add rfl rfl (by omega) rfl rfl ?_))
            refine ⟨j + 1, ⟨by omega, hsu⟩, by omega, ?_⟩
            exact (FLe.conv [] (by simp) (by simp) rfl (by repeat (first | exact GhOk.nil | refine GhOk.low rfl ?_ | refine GhOk.same rfl ?_ | refine GhOk.bump (Nat.lt_succ_self _) ?_)) (by repeat (first | exact EntsOk.nil)) (by repeat (first | exact SlC.nil | refine SlC.cons (.plain rfl rfl rfl) ?_)))
        · skip
          have hb : badP l i j = false := by unfold badP badC; rw [g1, g2, h1, c1]; rfl
          rw [hb] at hsu
          (repeat (first | refine RunD.nil ?_ | refine rd_pickF rfl rfl rfl rfl ?_ | refine rd_move rfl rfl ⟨_, _, rfl, rfl, rfl⟩ ?_ | refine rd_pickF rfl rfl rfl ⟨_, _, rfl, rfl, rfl⟩ ?_ | refine rd_skip rfl rfl ⟨_, _, rfl, rfl, rfl⟩ ?_))
          refine ⟨by kernel_rfl, ?_⟩
          (repeat (first | refine FW.region ?_ | refine FW.skip ?_ | refine FW.condF rfl ?_ | refine RunN.nil ?_ | refine rn_assign rfl rfl rfl ?_ | refine rn_move rfl rfl rfl ?_ | refine rn_add rfl rfl (by omega) rfl rfl ?_))
          refine ⟨j + 1, ⟨by omega, hsu⟩, by omega, ?_⟩
          exact (FLe.conv [] (by simp) (by simp) rfl (by repeat (first | exact GhOk.nil | refine GhOk.low rfl ?_ | refine GhOk.same rfl ?_ | refine GhOk.bump (Nat.lt_succ_self _) ?_)) (by repeat (first | exact EntsOk.nil)) (by repeat (first | exact SlC.nil | refine SlC.cons (.plain rfl rfl rfl) ?_)))
    · obtain rfl : j = l.length := by simp at hc2; omega
      have hI : badI l i = false := by unfold badI; rw [hK, hanj]; rfl
      rw [hI] at hsi
      (repeat (first | refine FW.region ?_ | refine FW.exit ?_ | refine RunN.nil ?_ | refine rn_assign rfl rfl rfl ?_ | refine rn_move rfl rfl rfl ?_ | refine rn_add rfl rfl (by omega) rfl rfl ?_))
      refine ⟨i + 1, ⟨by omega, hsi⟩, by omega, ?_⟩
      exact (FLe.conv [] (by simp) (by simp) rfl (by repeat (first | exact GhOk.nil | refine GhOk.low rfl ?_ | refine GhOk.same rfl ?_ | refine GhOk.bump (Nat.lt_succ_self _) ?_)) (by repeat (first | exact EntsOk.nil)) (by repeat (first | exact SlC.nil | refine SlC.cons (.plain rfl rfl rfl) ?_)))
  · obtain rfl : i = l.length := by simp at hc; omega
    have : R = 0 := hgd hany
    subst this
    (repeat (first | refine FW.seq ?_ | refine FW.region ?_ | refine FW.exit ?_ | refine RunN.nil ?_ | refine rn_assign rfl rfl rfl ?_))
    exact FW.ret ⟨.inl rfl, ret_flat rfl rfl rfl rfl⟩
end Go.Proofs.Ytfegkbmnclhljaa
