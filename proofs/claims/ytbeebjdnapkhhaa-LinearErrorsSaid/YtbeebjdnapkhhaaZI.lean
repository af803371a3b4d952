/-
  Some texts as one: FmHistQ, FmOnce12, BentH.
-/
import Derived.Test.YtbeebjdnapkhhaaZH
import Derived.Test.YtbeebjdnapkhhaaZG
/-
 simproofref21.History, at plain values.
-/
namespace Go.Proofs.Ytbeebjdnapkhhaa
set_option linter.unusedVariables false
open Go.RowKit

def boolf (b : Bool) : List FV := [.bool b]
theorem mapB_set (l : List Bool) (i : Nat) (b : Bool) : (l.set i b).map boolf = (l.map boolf).set i [.bool b] := List.map_set
theorem mapO_add (l : List OpV) (o : OpV) : (l ++ [o]).map OpV.fv = l.map OpV.fv ++ [OpV.fv o] := by rw [List.map_append]; rfl
theorem mapO_set (l : List OpV) (i : Nat) (o : OpV) : (l.set i o).map OpV.fv = (l.map OpV.fv).set i (OpV.fv o) := List.map_set
theorem put_specI (l : List Int) (i v : Int) (hl : l.length ≤ 1000000000) (h0 : 0 ≤ i) (hi : i.toNat < l.length) : Spec Try.prog 44 [.list 1 (l.map intf), .int .i64 i, .int .i64 v] (.ow 3 1) (.list 1 ((l.set i.toNat v).map intf)) := by
 have := put_spec l i.toNat v hl hi
 rwa [Int.toNat_of_nonneg h0] at this
theorem mapQ_add (a x : List Int) (v : Int) : (a ++ (x ++ [v])).map intf = (a ++ x).map intf ++ [intf v] := by simp
theorem mapQ_full (a x : List Int) (v : Int) : (([] : List Int) ++ (x ++ [v])).map intf = ((a ++ x).map intf).drop a.length ++ [intf v] := by simp
def fixTo (t : Nat) (l : List OpV) (k : Nat) : List OpV := (l.take k).map (hsFix t) ++ l.drop k
theorem fixTo_len (t : Nat) (l : List OpV) (k : Nat) : (fixTo t l k).length = l.length := by unfold fixTo; simp; omega
theorem fixTo_zero (t : Nat) (l : List OpV) : fixTo t l 0 = l := by unfold fixTo; simp
theorem fixTo_all (t : Nat) (l : List OpV) : fixTo t l l.length = l.map (hsFix t) := by unfold fixTo; simp
theorem fixTo_at (t : Nat) {l : List OpV} {k : Nat} (hk : k < l.length) : nth (fixTo t l k) k = nth l k := by
 rw [nth_eq (by rw [fixTo_len]; exact hk), nth_eq hk]
 unfold fixTo
 rw [List.getElem_append_right (by simp; omega)]
 simp [Nat.min_eq_left (Nat.le_of_lt hk)]
theorem fixTo_succ (t : Nat) {l : List OpV} {k : Nat} (hk : k < l.length) : fixTo t l (k + 1) = (fixTo t l k).set k (hsFix t (nth l k)) := by
 unfold fixTo
 rw [List.set_append_right _ _ (by simp; omega)]
 rw [List.take_succ_eq_append_getElem hk, List.map_append, List.append_assoc, nth_eq hk]
 congr 1
 rw [show k - (List.map (hsFix t) (List.take k l)).length = 0 by simp; omega, List.drop_eq_getElem_cons hk]
 rfl
theorem fixTo_same (t : Nat) {l : List OpV} {k : Nat} (hk : k < l.length) (hd : (nth l k).done = true) : fixTo t l (k + 1) = fixTo t l k := by
 rw [fixTo_succ t hk]
 have : hsFix t (nth l k) = nth (fixTo t l k) k := by rw [fixTo_at t hk]; unfold hsFix; rw [if_pos hd]
 rw [this, nth_eq (by rw [fixTo_len]; exact hk), List.set_getElem_self]
theorem nth_set_or {α : Type} [Inhabited α] (l : List α) (i c : Nat) (v : α) : (i = c ∧ nth (l.set i v) c = v) ∨ nth (l.set i v) c = nth l c := by
 by_cases e : i = c
 ·subst e
  by_cases hi : i < l.length
  ·exact .inl ⟨rfl, nth_set_same hi⟩
  ·right; rw [List.set_eq_of_length_le (by omega)]
 ·right; exact nth_set_other e
theorem hsEff_qlen (o : OpV) (p : Nat) (s : HS) (c : Nat) : (nth (hsEff o p s).qs c).length ≤ (nth s.qs c).length + 1 := by
 unfold hsEff
 split
 ·exact Nat.le_succ _
 ·split
  ·exact Nat.le_succ _
  ·split
   ·rcases nth_set_or s.qs o.key.toNat c (nth s.qs o.key.toNat ++ [o.arg]) with ⟨e, h⟩ | h
    ·show (nth (s.qs.set o.key.toNat (nth s.qs o.key.toNat ++ [o.arg])) c).length ≤ _
     rw [h, e]; simp
    ·show (nth (s.qs.set o.key.toNat (nth s.qs o.key.toNat ++ [o.arg])) c).length ≤ _
     rw [h]; exact Nat.le_succ _
   ·split
    ·exact Nat.le_succ _
    ·rename_i x r hq
     rcases nth_set_or s.qs o.key.toNat c r with ⟨e, h⟩ | h
     ·show (nth (s.qs.set o.key.toNat r) c).length ≤ _
      rw [h, ← e, hq]; simp; omega
     ·show (nth (s.qs.set o.key.toNat r) c).length ≤ _
      rw [h]; exact Nat.le_succ _
theorem hsStep_qlen (q : Bool) (v : Int) (s : HS) (c : Nat) : (nth (hsStep q v s).qs c).length ≤ (nth s.qs c).length + 1 := by
 unfold hsStep
 split
 ·exact Nat.le_succ _
 ·have h : (nth (hsEffM (around v 1000000 % 3).toNat s).qs c).length ≤ (nth s.qs c).length + 1 := by
   unfold hsEffM
   split
   ·exact Nat.le_succ _
   ·exact hsEff_qlen _ _ _ _
  unfold hsEnd
  split
  ·exact h
  ·split
   ·exact h
   ·exact h
theorem hsTo_qlen (q : Bool) (l : List Int) (c : Nat) : ∀ i, (nth (hsTo q l i).qs c).length ≤ i
 | 0 => by
  show (nth [[], []] c).length ≤ 0
  match c with
  | 0 => exact Nat.le_refl _
  | 1 => exact Nat.le_refl _
  | c + 2 => exact Nat.le_refl _
 | i + 1 => Nat.le_trans (hsStep_qlen q _ _ c) (by have := hsTo_qlen q l c i; omega)

set_option maxHeartbeats 20000000 in
theorem histQ_spec (q : Bool) (l : List Int) (hl : ∀ x ∈ l, I64 x) (hlen : l.length ≤ 9223372036854775807) : Spec Try.prog 26 [.list 1 (l.map intf), .bool q] (.ow 41 8) (.list 8 ((histQ q l).map OpV.fv)) := by
 refine Spec.of_body (c := (cxOf Try.prog tyAt_ok mixed_ok 228)) ⟨Try.func26, rfl, Try.ntmps26, by kernel_rfl⟩ (by simp [FV.hand]) (by exact Nat.le_of_ble_eq_true rfl) rfl ?_
 change FW _ _ _ ⟨[(0, .list 1 (l.map intf)), (1, .bool q)], []⟩
 (repeat (first | refine FW.seq ?_ | refine FW.region ?_ | refine RunN.nil ?_ | refine rn_assign rfl rfl rfl ?_))
 refine rn_buildSK rfl rfl rfl rfl rfl rfl rfl rfl rfl ?_
 (repeat (first | refine FW.seq ?_ | refine FW.region ?_ | refine RunN.nil ?_ | refine rn_assign rfl rfl rfl ?_ | refine PtsK.nil ?_ | refine PtsK.one rfl rfl rfl ?_))
 refine rn_buildSK rfl rfl rfl rfl rfl rfl rfl rfl rfl ?_
 (repeat (first | refine FW.seq ?_ | refine FW.region ?_ | refine RunN.nil ?_ | refine rn_assign rfl rfl rfl ?_ | refine PtsK.nil ?_ | refine PtsK.one rfl rfl rfl ?_))
 refine rn_buildSK rfl rfl rfl rfl rfl rfl rfl rfl rfl ?_
 (repeat (first | refine FW.seq ?_ | refine FW.region ?_ | refine RunN.nil ?_ | refine rn_assign rfl rfl rfl ?_ | refine PtsK.nil ?_ | refine PtsK.one rfl rfl rfl ?_))
 refine rn_buildSK rfl rfl rfl rfl rfl rfl rfl rfl rfl ?_
 (repeat (first | refine FW.seq ?_ | refine FW.region ?_ | refine RunN.nil ?_ | refine rn_assign rfl rfl rfl ?_ | refine PtsK.nil ?_ | refine PtsK.one rfl rfl rfl ?_))
 refine rn_buildSK rfl rfl rfl rfl rfl rfl rfl rfl rfl ?_
 (repeat (first | refine FW.seq ?_ | refine FW.region ?_ | refine RunN.nil ?_ | refine rn_assign rfl rfl rfl ?_ | refine PtsK.nil ?_ | refine PtsK.one rfl rfl rfl ?_))
 refine rn_buildSK rfl rfl rfl rfl rfl rfl rfl rfl rfl ?_
 (repeat (first | refine FW.seq ?_ | refine FW.region ?_ | refine FW.block ?_ | refine RunN.nil ?_ | refine rn_assign rfl rfl rfl ?_ | refine PtsK.nil ?_ | refine PtsK.one rfl rfl rfl ?_))
 refine FW.loop (fun z : Nat × List Int × List Int × List Int × List Int => ⟨[(0, .list 1 (l.map intf)), (1, .bool q), (5, .own 100 0 0 (hsTo q l z.1).out.length), (6, .own 101 0 0 (hsTo q l z.1).pr.length), (7, .own 102 0 0 (hsTo q l z.1).op.length), (8, .own 103 0 0 (hsTo q l z.1).ef.length), (9, .own 104 0 0 (hsTo q l z.1).rs.length), (10, .own 105 0 0 (hsTo q l z.1).now.length), (11, .own 106 0 0 2), (12, .int .i64 (hsTo q l z.1).time), (13, .int .i64 (hsTo q l z.1).fresh), (14, .int .i64 z.1)], [(100, ⟨0, .own, 41, 8, (hsTo q l z.1).out.map OpV.fv⟩), (101, ⟨0, .own, 3, 1, (hsTo q l z.1).pr.map intf⟩), (102, ⟨0, .own, 3, 1, (hsTo q l z.1).op.map intf⟩), (103, ⟨0, .own, 4, 1, (hsTo q l z.1).ef.map boolf⟩), (104, ⟨0, .own, 3, 1, (hsTo q l z.1).rs.map intf⟩), (105, ⟨0, .own, 3, 1, (hsTo q l z.1).now.map intf⟩), (106, ⟨0, .hrow, 22, 1, [[.own 107 0 z.2.1.length z.2.2.1.length], [.own 108 0 z.2.2.2.1.length z.2.2.2.2.length]]⟩), (107, ⟨0, .own, 3, 1, (z.2.1 ++ z.2.2.1).map intf⟩), (108, ⟨0, .own, 3, 1, (z.2.2.2.1 ++ z.2.2.2.2).map intf⟩)]⟩) (fun z => z.1 ≤ min l.length 60 ∧ (hsTo q l z.1).qs = [z.2.2.1, z.2.2.2.2]) (fun z => min l.length 60 - z.1) (0, [], [], [], []) ⟨Nat.zero_le _, rfl⟩
  ((FLe.toH (i := 26) rfl).trans (FLe.conv [⟨100, none, 0, ⟨0, .own, 41, 8, ([] : List (List FV))⟩⟩, ⟨101, some 21, 1, ⟨0, .own, 3, 1, ([0, 1, 2] : List Int).map intf⟩⟩, ⟨102, some 22, 1, ⟨0, .own, 3, 1, ([-1, -1, -1] : List Int).map intf⟩⟩, ⟨103, some 23, 1, ⟨0, .own, 4, 1, [false, false, false].map boolf⟩⟩, ⟨104, some 24, 1, ⟨0, .own, 3, 1, ([0, 0, 0] : List Int).map intf⟩⟩, ⟨105, some 25, 1, ⟨0, .own, 3, 1, ([0, 0] : List Int).map intf⟩⟩, ⟨106, some 26, 1, ⟨0, .hrow, 22, 1, [[.own 107 0 ([] : List Int).length ([] : List Int).length], [.own 108 0 ([] : List Int).length ([] : List Int).length]]⟩⟩, ⟨107, none, 0, ⟨0, .own, 3, 1, ([] : List (List FV))⟩⟩, ⟨108, none, 0, ⟨0, .own, 3, 1, ([] : List (List FV))⟩⟩] (by simp) (by simp) rfl (by repeat (first | exact .nil | refine .low rfl ?_ | refine .same rfl ?_ | refine .bump (Nat.lt_succ_self _) ?_)) (by repeat (first | exact .nil | refine .old rfl (by decide) rfl ?_ | refine .oldH rfl (by repeat (first | exact .nil | refine .cons (.nil (.tail _ (.tail _ (.tail _ (.tail _ (.tail _ (.tail _ (.tail _ (.head _)))))))) rfl) ?_ | refine .cons (.nil (.tail _ (.tail _ (.tail _ (.tail _ (.tail _ (.tail _ (.tail _ (.tail _ (.head _))))))))) rfl) ?_)) ?_ | refine .new ?_)) (by repeat (first | exact .nil | refine .cons (.plain rfl rfl rfl) ?_ | refine .cons (.nil rfl (.head _) rfl) ?_ | refine .cons (.own rfl (.tail _ (.head _)) rfl rfl) ?_ | refine .cons (.own rfl (.tail _ (.tail _ (.head _))) rfl rfl) ?_ | refine .cons (.own rfl (.tail _ (.tail _ (.tail _ (.head _)))) rfl rfl) ?_ | refine .cons (.own rfl (.tail _ (.tail _ (.tail _ (.tail _ (.head _))))) rfl rfl) ?_ | refine .cons (.own rfl (.tail _ (.tail _ (.tail _ (.tail _ (.tail _ (.head _)))))) rfl rfl) ?_ | refine .cons (.own rfl (.tail _ (.tail _ (.tail _ (.tail _ (.tail _ (.tail _ (.head _))))))) rfl rfl) ?_)))) ?_
 rintro ⟨i, a, x, b, y⟩ ⟨hi, hqs⟩
 dsimp only at hi hqs ⊢
 have hI := hsTo_inv q l i
 have hnext : ∀ s', hsStep q (nth l i) (hsTo q l i) = s' → hsTo q l (i + 1) = s' := fun s' h => h
 have hhist : i = min l.length 60 → histQ q l = (hsTo q l i).out.map (hsFix (hsTo q l i).time) := fun e => by unfold histQ; rw [← e]
 have hx60 : x.length ≤ i := by have := hsTo_qlen q l 0 i; rw [hqs] at this; exact this
 have hy60 : y.length ≤ i := by have := hsTo_qlen q l 1 i; rw [hqs] at this; exact this
 generalize hsTo q l i = s at hI hqs hnext hhist ⊢
 have ho3 := hI.o3
 have hp3 := hI.p3
 have he3 := hI.e3
 have hr3 := hI.r3
 have hn2 := hI.n2
 have hti := hI.ti
 have hli := hI.li
 have hfi := hI.fi
 (repeat (first | refine FW.seq ?_ | refine FW.region ?_ | refine rn_move rfl rfl rfl ?_ | refine rn_lenList rfl rfl (by exact List.length_map _) rfl rfl ?_ | refine rn_lss rfl rfl rfl rfl ?_))
 refine rn_case (fun h1 => ?_) (fun h1 => ?_)
 ·have hlt : i < l.length := by simpa using h1
  (repeat (first | refine RunN.nil ?_ | refine rn_pickT rfl rfl rfl rfl ?_ | refine rn_move rfl rfl ⟨_, _, rfl, rfl, rfl⟩ ?_ | refine rn_lss rfl rfl rfl ⟨_, _, rfl, rfl, rfl⟩ ?_))
  refine FW.cond rfl (fun h2 => ?_) (fun h2 => ?_)
  ·have h60 : i < 60 := by simp at h2; omega
   clear h1 h2
   have hx := hl _ (nth_mem hlt)
   obtain ⟨n, hn⟩ : ∃ n, around (nth l i) 1000000 = n := ⟨_, rfl⟩
   have hn0 : 0 ≤ n ∧ n < 1000000 := hn ▸ ⟨around_lo (by decide), around_hi (by decide)⟩
   have hA := around_spec (nth l i) 1000000 hx (by decide) (by decide)
   rw [hn] at hA
   (repeat (first | refine FW.seq ?_ | refine FW.region ?_ | refine FW.block ?_ | refine FW.skip ?_ | refine rn_move rfl rfl rfl ?_ | refine rn_indexL rfl rfl rfl rfl rfl rfl (by simp; omega) rfl rfl ?_ | refine rn_loadE rfl rfl rfl (by simp; omega) (by first | exact getD_map (by omega) | rfl) rfl rfl rfl rfl ?_))
   refine rn_call hA (by repeat (first | exact ArgsR.nil | refine ArgsR.cons (by exact ArgR.plain rfl rfl) ?_)) rfl rfl ?_
   (repeat (first | refine FW.seq ?_ | refine FW.region ?_ | refine RunN.nil ?_ | refine rn_assign rfl rfl rfl ?_ | refine rn_move rfl rfl rfl ?_ | refine rn_lss rfl rfl rfl rfl ?_ | refine rn_indexO rfl rfl (by exact (Int.toNat_of_nonneg (by omega)).symm) rfl rfl rfl (by decide) rfl (by first | omega | (simp; omega)) rfl rfl ?_ | refine rn_loadP rfl rfl rfl rfl rfl (by first | omega | (simp; omega)) (by exact getD_map (by omega)) rfl rfl rfl rfl ?_ | refine rn_rem rfl rfl (by omega) rfl rfl ?_ | refine rn_quo rfl rfl (by omega) rfl rfl ?_))
   refine FW.cond rfl (fun hop => ?_) (fun hop => ?_)
   ·have hop : nth s.op (n % 3).toNat < 0 := by simpa using hop
    (repeat (first | refine FW.seq ?_ | refine FW.region ?_ | refine RunN.nil ?_ | refine rn_move rfl rfl rfl ?_ | refine rn_indexO rfl rfl (by exact (Int.toNat_of_nonneg (by omega)).symm) rfl rfl rfl (by decide) rfl (by first | omega | (simp; omega)) rfl rfl ?_ | refine rn_loadP rfl rfl rfl rfl rfl (by first | omega | (simp; omega)) (by exact getD_map (by omega)) rfl rfl rfl rfl ?_ | refine rn_rem rfl rfl (by omega) rfl rfl ?_ | refine rn_quo rfl rfl (by omega) rfl rfl ?_ | refine rn_buildK rfl rfl rfl rfl ?_ | refine rn_alloc rfl rfl rfl rfl rfl rfl rfl ?_ | refine rn_storeVA rfl rfl rfl rfl rfl rfl rfl rfl rfl ?_ | refine FillK.nil ?_ | refine FillK.one rfl rfl rfl rfl rfl ?_))
    refine FW.cond rfl (fun hq => ?_) (fun hq => ?_)
    ·subst hq
     (repeat (first | refine FW.seq ?_ | refine FW.region ?_ | refine RunN.nil ?_ | refine rn_move rfl rfl rfl ?_ | refine rn_loadP rfl rfl rfl rfl rfl (by simp; done) rfl rfl rfl rfl rfl ?_ | refine rn_rem rfl rfl (by omega) rfl rfl ?_ | refine rn_storeV rfl rfl rfl rfl rfl rfl rfl rfl rfl ?_ | refine rn_add rfl rfl (by omega) rfl rfl ?_ | refine rn_fieldP rfl rfl rfl rfl rfl rfl (by decide) rfl rfl ?_ | refine rn_eql rfl rfl rfl rfl ?_))
     refine rn_case (fun h1 => ?_) (fun h1 => ?_)
     ·exfalso; simp at h1; omega
     ·(repeat (first | refine RunN.nil ?_ | refine rn_pickF rfl rfl rfl rfl ?_ | refine rn_fieldP rfl rfl rfl rfl rfl rfl (by decide) rfl ⟨_, _, rfl, rfl, rfl⟩ ?_ | refine rn_loadP rfl rfl rfl rfl rfl (by simp; done) rfl rfl rfl rfl ⟨_, _, rfl, rfl, rfl⟩ ?_ | refine rn_eql rfl rfl rfl ⟨_, _, rfl, rfl, rfl⟩ ?_))
      refine FW.cond rfl (fun h3 => ?_) (fun h3 => ?_)
      ·(repeat (first | refine FW.seq ?_ | refine FW.region ?_ | refine RunN.nil ?_ | refine rn_assign rfl rfl rfl ?_ | refine rn_move rfl rfl rfl ?_ | refine rn_lenOwn rfl rfl rfl (by decide) rfl rfl ?_ | refine rn_storeV rfl rfl rfl rfl rfl rfl rfl rfl rfl ?_ | refine rn_add rfl rfl (by omega) rfl rfl ?_ | refine rn_fieldP rfl rfl rfl rfl rfl rfl (by decide) rfl rfl ?_))
       refine rn_callO (put_specI s.op (n % 3) s.out.length (by omega) (by omega) (by omega)) (by repeat (first | exact ArgsR.nil | refine ArgsR.cons (by first | exact ArgR.plain rfl rfl | exact ArgR.own rfl rfl (by decide) (by first | exact (fun _ => rfl) | (intro h; cases h)) (by first | rfl | (simp; done) | (congr 1; omega) | (simp; omega) | (simp [List.take_of_length_le]; done) | (refine congrArg (FV.int .i64) ?_; omega))) ?_)) (List.length_map _) rfl rfl rfl ?_
       (repeat (first | refine FW.seq ?_ | refine FW.region ?_ | refine FW.exit ?_ | refine RunN.nil ?_ | refine rn_assign rfl rfl rfl ?_ | refine rn_buildS1A rfl rfl rfl rfl rfl rfl rfl rfl rfl rfl ?_ | refine rn_move rfl rfl rfl ?_ | refine rn_indexO rfl rfl (by first | rfl | exact (Int.toNat_of_nonneg (by omega)).symm) rfl rfl rfl (by decide) rfl (by first | omega | (simp; omega) | (simp; done)) rfl rfl ?_ | refine rn_loadPA rfl rfl rfl (by decide) rfl rfl (by first | omega | (simp; omega) | (simp; done)) (by first | exact getD_map (by omega) | rfl) rfl rfl rfl ?_ | refine rn_storeR rfl rfl rfl rfl rfl rfl (by first | omega | (simp; omega) | (simp; done)) (by first | exact getD_map (by omega) | rfl) rfl rfl rfl ?_ | refine rn_add rfl rfl (by omega) rfl rfl ?_ | refine rn_appO rfl rfl (by first | exact (List.length_map _).symm | rfl | (simp; done) | omega | (simp; omega)) rfl rfl rfl (by decide) (by exact SrcR.own rfl rfl (by decide) (by first | exact List.length_map _ | exact (List.length_map _).symm | exact List.length_replicate | rfl | (simp; done) | omega | (simp; omega))) (by first | omega | (simp; omega) | (simp; done)) (by first | omega | (simp; omega) | (simp; done)) rfl rfl rfl ?_))
       have hw : hsW (hsKind true (n / 3)) = true := by simp at h3; simp [hsW, hsKind]; omega
       have H : hsStep true (nth l i) s = ⟨s.out ++ [⟨nth s.pr (n % 3).toNat, 3 + n / 3 % 2, n / 3 / 2 % 2, (s.fresh : Int), 0, (s.time : Int), 0, false⟩], s.pr, s.op.set (n % 3).toNat (s.out.length : Int), s.ef.set (n % 3).toNat false, s.rs, s.now, s.qs, s.time + 1, s.fresh + 1⟩ := by
        unfold hsStep
        rw [hn, if_pos hop]
        unfold hsOpen hsNew
        simp only [hw, if_true]
        rfl
       refine ⟨(i + 1, a, x, b, y), ⟨by show i + 1 ≤ _; omega, by dsimp only; rw [hnext _ H]; exact hqs⟩, by show min l.length 60 - (i + 1) < min l.length 60 - i; omega, ?_⟩
       dsimp only
       rw [hnext _ H]
       dsimp only
       rw [mapO_add, mapB_set]
       exact (FLe.conv [⟨100, some 92, 1, ⟨0, .own, 41, 8, (s.out.map OpV.fv ++ [OpV.fv ⟨nth s.pr (n % 3).toNat, 3 + n / 3 % 2, n / 3 / 2 % 2, (s.fresh : Int), 0, (s.time : Int), 0, false⟩])⟩⟩, ⟨101, some 101, 0, ⟨0, .own, 3, 1, s.pr.map intf⟩⟩, ⟨102, some 85, 1, ⟨0, .own, 3, 1, (s.op.set (n % 3).toNat (s.out.length : Int)).map intf⟩⟩, ⟨103, some 103, 0, ⟨0, .own, 4, 1, ((s.ef.map boolf).set (n % 3).toNat [.bool false])⟩⟩, ⟨104, some 104, 0, ⟨0, .own, 3, 1, s.rs.map intf⟩⟩, ⟨105, some 105, 0, ⟨0, .own, 3, 1, s.now.map intf⟩⟩, ⟨106, some 106, 0, ⟨0, .hrow, 22, 1, [[.own 107 0 a.length x.length], [.own 108 0 b.length y.length]]⟩⟩, ⟨107, some 107, 0, ⟨0, .own, 3, 1, (a ++ x).map intf⟩⟩, ⟨108, some 108, 0, ⟨0, .own, 3, 1, (b ++ y).map intf⟩⟩] (by simp) (by simp) rfl (by repeat (first | exact .nil | refine .low rfl ?_ | refine .same rfl ?_ | refine .bump (Nat.lt_succ_self _) ?_)) (by repeat (first | exact .nil | refine .old rfl (by decide) (by first | rfl | (simp; done)) ?_ | refine .oldH rfl (by repeat (first | exact .nil | refine .cons (.own (.tail _ (.tail _ (.tail _ (.tail _ (.tail _ (.tail _ (.tail _ (.head _)))))))) rfl (by first | rfl | (simp; done)) (by first | rfl | (simp; done))) ?_ | refine .cons (.own (.tail _ (.tail _ (.tail _ (.tail _ (.tail _ (.tail _ (.tail _ (.tail _ (.head _))))))))) rfl (by first | rfl | (simp; done)) (by first | rfl | (simp; done))) ?_)) ?_)) (by repeat (first | exact .nil | refine .cons (.plain rfl rfl (by first | rfl | (simp; done))) ?_ | refine .cons (.own rfl (.head _) rfl (by first | rfl | (simp; done))) ?_ | refine .cons (.own rfl (.tail _ (.head _)) rfl (by first | rfl | (simp; done))) ?_ | refine .cons (.own rfl (.tail _ (.tail _ (.head _))) rfl (by first | rfl | (simp; done))) ?_ | refine .cons (.own rfl (.tail _ (.tail _ (.tail _ (.head _)))) rfl (by first | rfl | (simp; done))) ?_ | refine .cons (.own rfl (.tail _ (.tail _ (.tail _ (.tail _ (.head _))))) rfl (by first | rfl | (simp; done))) ?_ | refine .cons (.own rfl (.tail _ (.tail _ (.tail _ (.tail _ (.tail _ (.head _)))))) rfl (by first | rfl | (simp; done))) ?_ | refine .cons (.own rfl (.tail _ (.tail _ (.tail _ (.tail _ (.tail _ (.tail _ (.head _))))))) rfl (by first | rfl | (simp; done))) ?_)))
      ·(repeat (first | refine FW.seq ?_ | refine FW.region ?_ | refine FW.skip ?_ | refine RunN.nil ?_ | refine rn_assign rfl rfl rfl ?_ | refine rn_move rfl rfl rfl ?_ | refine rn_lenOwn rfl rfl rfl (by decide) rfl rfl ?_ | refine rn_add rfl rfl (by omega) rfl rfl ?_))
       refine rn_callO (put_specI s.op (n % 3) s.out.length (by omega) (by omega) (by omega)) (by repeat (first | exact ArgsR.nil | refine ArgsR.cons (by first | exact ArgR.plain rfl rfl | exact ArgR.own rfl rfl (by decide) (by first | exact (fun _ => rfl) | (intro h; cases h)) (by first | rfl | (simp; done) | (congr 1; omega) | (simp; omega) | (simp [List.take_of_length_le]; done) | (refine congrArg (FV.int .i64) ?_; omega))) ?_)) (List.length_map _) rfl rfl rfl ?_
       (repeat (first | refine FW.seq ?_ | refine FW.region ?_ | refine FW.exit ?_ | refine RunN.nil ?_ | refine rn_assign rfl rfl rfl ?_ | refine rn_buildS1A rfl rfl rfl rfl rfl rfl rfl rfl rfl rfl ?_ | refine rn_move rfl rfl rfl ?_ | refine rn_indexO rfl rfl (by first | rfl | exact (Int.toNat_of_nonneg (by omega)).symm) rfl rfl rfl (by decide) rfl (by first | omega | (simp; omega) | (simp; done)) rfl rfl ?_ | refine rn_loadPA rfl rfl rfl (by decide) rfl rfl (by first | omega | (simp; omega) | (simp; done)) (by first | exact getD_map (by omega) | rfl) rfl rfl rfl ?_ | refine rn_storeR rfl rfl rfl rfl rfl rfl (by first | omega | (simp; omega) | (simp; done)) (by first | exact getD_map (by omega) | rfl) rfl rfl rfl ?_ | refine rn_add rfl rfl (by omega) rfl rfl ?_ | refine rn_appO rfl rfl (by first | exact (List.length_map _).symm | rfl | (simp; done) | omega | (simp; omega)) rfl rfl rfl (by decide) (by exact SrcR.own rfl rfl (by decide) (by first | exact List.length_map _ | exact (List.length_map _).symm | exact List.length_replicate | rfl | (simp; done) | omega | (simp; omega))) (by first | omega | (simp; omega) | (simp; done)) (by first | omega | (simp; omega) | (simp; done)) rfl rfl rfl ?_))
       have hw : hsW (hsKind true (n / 3)) = false := by simp at h3; simp [hsW, hsKind]; omega
       have H : hsStep true (nth l i) s = ⟨s.out ++ [⟨nth s.pr (n % 3).toNat, 3 + n / 3 % 2, n / 3 / 2 % 2, 0, 0, (s.time : Int), 0, false⟩], s.pr, s.op.set (n % 3).toNat (s.out.length : Int), s.ef.set (n % 3).toNat false, s.rs, s.now, s.qs, s.time + 1, s.fresh⟩ := by
        unfold hsStep
        rw [hn, if_pos hop]
        unfold hsOpen hsNew
        simp only [hw, if_false, Bool.false_eq_true]
        rfl
       refine ⟨(i + 1, a, x, b, y), ⟨by show i + 1 ≤ _; omega, by dsimp only; rw [hnext _ H]; exact hqs⟩, by show min l.length 60 - (i + 1) < min l.length 60 - i; omega, ?_⟩
       dsimp only
       rw [hnext _ H]
       dsimp only
       rw [mapO_add, mapB_set]
       exact (FLe.conv [⟨100, some 92, 1, ⟨0, .own, 41, 8, (s.out.map OpV.fv ++ [OpV.fv ⟨nth s.pr (n % 3).toNat, 3 + n / 3 % 2, n / 3 / 2 % 2, 0, 0, (s.time : Int), 0, false⟩])⟩⟩, ⟨101, some 101, 0, ⟨0, .own, 3, 1, s.pr.map intf⟩⟩, ⟨102, some 85, 1, ⟨0, .own, 3, 1, (s.op.set (n % 3).toNat (s.out.length : Int)).map intf⟩⟩, ⟨103, some 103, 0, ⟨0, .own, 4, 1, ((s.ef.map boolf).set (n % 3).toNat [.bool false])⟩⟩, ⟨104, some 104, 0, ⟨0, .own, 3, 1, s.rs.map intf⟩⟩, ⟨105, some 105, 0, ⟨0, .own, 3, 1, s.now.map intf⟩⟩, ⟨106, some 106, 0, ⟨0, .hrow, 22, 1, [[.own 107 0 a.length x.length], [.own 108 0 b.length y.length]]⟩⟩, ⟨107, some 107, 0, ⟨0, .own, 3, 1, (a ++ x).map intf⟩⟩, ⟨108, some 108, 0, ⟨0, .own, 3, 1, (b ++ y).map intf⟩⟩] (by simp) (by simp) rfl (by repeat (first | exact .nil | refine .low rfl ?_ | refine .same rfl ?_ | refine .bump (Nat.lt_succ_self _) ?_)) (by repeat (first | exact .nil | refine .old rfl (by decide) (by first | rfl | (simp; done)) ?_ | refine .oldH rfl (by repeat (first | exact .nil | refine .cons (.own (.tail _ (.tail _ (.tail _ (.tail _ (.tail _ (.tail _ (.tail _ (.head _)))))))) rfl (by first | rfl | (simp; done)) (by first | rfl | (simp; done))) ?_ | refine .cons (.own (.tail _ (.tail _ (.tail _ (.tail _ (.tail _ (.tail _ (.tail _ (.tail _ (.head _))))))))) rfl (by first | rfl | (simp; done)) (by first | rfl | (simp; done))) ?_)) ?_)) (by repeat (first | exact .nil | refine .cons (.plain rfl rfl (by first | rfl | (simp; done))) ?_ | refine .cons (.own rfl (.head _) rfl (by first | rfl | (simp; done))) ?_ | refine .cons (.own rfl (.tail _ (.head _)) rfl (by first | rfl | (simp; done))) ?_ | refine .cons (.own rfl (.tail _ (.tail _ (.head _))) rfl (by first | rfl | (simp; done))) ?_ | refine .cons (.own rfl (.tail _ (.tail _ (.tail _ (.head _)))) rfl (by first | rfl | (simp; done))) ?_ | refine .cons (.own rfl (.tail _ (.tail _ (.tail _ (.tail _ (.head _))))) rfl (by first | rfl | (simp; done))) ?_ | refine .cons (.own rfl (.tail _ (.tail _ (.tail _ (.tail _ (.tail _ (.head _)))))) rfl (by first | rfl | (simp; done))) ?_ | refine .cons (.own rfl (.tail _ (.tail _ (.tail _ (.tail _ (.tail _ (.tail _ (.head _))))))) rfl (by first | rfl | (simp; done))) ?_)))
    ·subst hq
     (repeat (first | refine FW.seq ?_ | refine FW.region ?_ | refine FW.skip ?_ | refine rn_move rfl rfl rfl ?_ | refine rn_loadP rfl rfl rfl rfl rfl (by simp; done) rfl rfl rfl rfl rfl ?_ | refine rn_fieldP rfl rfl rfl rfl rfl rfl (by decide) rfl rfl ?_ | refine rn_eql rfl rfl rfl rfl ?_))
     refine rn_case (fun h1 => ?_) (fun h1 => ?_)
     ·(repeat (first | refine FW.seq ?_ | refine FW.region ?_ | refine FW.condT rfl ?_ | refine RunN.nil ?_ | refine rn_assign rfl rfl rfl ?_ | refine rn_move rfl rfl rfl ?_ | refine rn_lenOwn rfl rfl rfl (by decide) rfl rfl ?_ | refine rn_pickT rfl rfl rfl rfl ?_ | refine rn_storeV rfl rfl rfl rfl rfl rfl rfl rfl rfl ?_ | refine rn_add rfl rfl (by omega) rfl rfl ?_ | refine rn_fieldP rfl rfl rfl rfl rfl rfl (by decide) rfl rfl ?_ | refine rn_skip rfl rfl ⟨_, _, rfl, rfl, rfl⟩ ?_))
      refine rn_callO (put_specI s.op (n % 3) s.out.length (by omega) (by omega) (by omega)) (by repeat (first | exact ArgsR.nil | refine ArgsR.cons (by first | exact ArgR.plain rfl rfl | exact ArgR.own rfl rfl (by decide) (by first | exact (fun _ => rfl) | (intro h; cases h)) (by first | rfl | (simp; done) | (congr 1; omega) | (simp; omega) | (simp [List.take_of_length_le]; done) | (refine congrArg (FV.int .i64) ?_; omega))) ?_)) (List.length_map _) rfl rfl rfl ?_
      (repeat (first | refine FW.seq ?_ | refine FW.region ?_ | refine FW.exit ?_ | refine RunN.nil ?_ | refine rn_assign rfl rfl rfl ?_ | refine rn_buildS1A rfl rfl rfl rfl rfl rfl rfl rfl rfl rfl ?_ | refine rn_move rfl rfl rfl ?_ | refine rn_indexO rfl rfl (by first | rfl | exact (Int.toNat_of_nonneg (by omega)).symm) rfl rfl rfl (by decide) rfl (by first | omega | (simp; omega) | (simp; done)) rfl rfl ?_ | refine rn_loadPA rfl rfl rfl (by decide) rfl rfl (by first | omega | (simp; omega) | (simp; done)) (by first | exact getD_map (by omega) | rfl) rfl rfl rfl ?_ | refine rn_storeR rfl rfl rfl rfl rfl rfl (by first | omega | (simp; omega) | (simp; done)) (by first | exact getD_map (by omega) | rfl) rfl rfl rfl ?_ | refine rn_add rfl rfl (by omega) rfl rfl ?_ | refine rn_appO rfl rfl (by first | exact (List.length_map _).symm | rfl | (simp; done) | omega | (simp; omega)) rfl rfl rfl (by decide) (by exact SrcR.own rfl rfl (by decide) (by first | exact List.length_map _ | exact (List.length_map _).symm | exact List.length_replicate | rfl | (simp; done) | omega | (simp; omega))) (by first | omega | (simp; omega) | (simp; done)) (by first | omega | (simp; omega) | (simp; done)) rfl rfl rfl ?_))
      have hw : hsW (hsKind false (n / 3)) = true := by simp at h1; simp [hsW, hsKind]; omega
      have H : hsStep false (nth l i) s = ⟨s.out ++ [⟨nth s.pr (n % 3).toNat, n / 3 % 2, n / 3 / 2 % 2, (s.fresh : Int), 0, (s.time : Int), 0, false⟩], s.pr, s.op.set (n % 3).toNat (s.out.length : Int), s.ef.set (n % 3).toNat false, s.rs, s.now, s.qs, s.time + 1, s.fresh + 1⟩ := by
       unfold hsStep
       rw [hn, if_pos hop]
       unfold hsOpen hsNew
       simp only [hw, if_true]
       rfl
      refine ⟨(i + 1, a, x, b, y), ⟨by show i + 1 ≤ _; omega, by dsimp only; rw [hnext _ H]; exact hqs⟩, by show min l.length 60 - (i + 1) < min l.length 60 - i; omega, ?_⟩
      dsimp only
      rw [hnext _ H]
      dsimp only
      rw [mapO_add, mapB_set]
      exact (FLe.conv [⟨100, some 92, 1, ⟨0, .own, 41, 8, (s.out.map OpV.fv ++ [OpV.fv ⟨nth s.pr (n % 3).toNat, n / 3 % 2, n / 3 / 2 % 2, (s.fresh : Int), 0, (s.time : Int), 0, false⟩])⟩⟩, ⟨101, some 101, 0, ⟨0, .own, 3, 1, s.pr.map intf⟩⟩, ⟨102, some 85, 1, ⟨0, .own, 3, 1, (s.op.set (n % 3).toNat (s.out.length : Int)).map intf⟩⟩, ⟨103, some 103, 0, ⟨0, .own, 4, 1, ((s.ef.map boolf).set (n % 3).toNat [.bool false])⟩⟩, ⟨104, some 104, 0, ⟨0, .own, 3, 1, s.rs.map intf⟩⟩, ⟨105, some 105, 0, ⟨0, .own, 3, 1, s.now.map intf⟩⟩, ⟨106, some 106, 0, ⟨0, .hrow, 22, 1, [[.own 107 0 a.length x.length], [.own 108 0 b.length y.length]]⟩⟩, ⟨107, some 107, 0, ⟨0, .own, 3, 1, (a ++ x).map intf⟩⟩, ⟨108, some 108, 0, ⟨0, .own, 3, 1, (b ++ y).map intf⟩⟩] (by simp) (by simp) rfl (by repeat (first | exact .nil | refine .low rfl ?_ | refine .same rfl ?_ | refine .bump (Nat.lt_succ_self _) ?_)) (by repeat (first | exact .nil | refine .old rfl (by decide) (by first | rfl | (simp; done)) ?_ | refine .oldH rfl (by repeat (first | exact .nil | refine .cons (.own (.tail _ (.tail _ (.tail _ (.tail _ (.tail _ (.tail _ (.tail _ (.head _)))))))) rfl (by first | rfl | (simp; done)) (by first | rfl | (simp; done))) ?_ | refine .cons (.own (.tail _ (.tail _ (.tail _ (.tail _ (.tail _ (.tail _ (.tail _ (.tail _ (.head _))))))))) rfl (by first | rfl | (simp; done)) (by first | rfl | (simp; done))) ?_)) ?_)) (by repeat (first | exact .nil | refine .cons (.plain rfl rfl (by first | rfl | (simp; done))) ?_ | refine .cons (.own rfl (.head _) rfl (by first | rfl | (simp; done))) ?_ | refine .cons (.own rfl (.tail _ (.head _)) rfl (by first | rfl | (simp; done))) ?_ | refine .cons (.own rfl (.tail _ (.tail _ (.head _))) rfl (by first | rfl | (simp; done))) ?_ | refine .cons (.own rfl (.tail _ (.tail _ (.tail _ (.head _)))) rfl (by first | rfl | (simp; done))) ?_ | refine .cons (.own rfl (.tail _ (.tail _ (.tail _ (.tail _ (.head _))))) rfl (by first | rfl | (simp; done))) ?_ | refine .cons (.own rfl (.tail _ (.tail _ (.tail _ (.tail _ (.tail _ (.head _)))))) rfl (by first | rfl | (simp; done))) ?_ | refine .cons (.own rfl (.tail _ (.tail _ (.tail _ (.tail _ (.tail _ (.tail _ (.head _))))))) rfl (by first | rfl | (simp; done))) ?_)))
     ·(repeat (first | refine RunN.nil ?_ | refine rn_pickF rfl rfl rfl rfl ?_ | refine rn_fieldP rfl rfl rfl rfl rfl rfl (by decide) rfl ⟨_, _, rfl, rfl, rfl⟩ ?_ | refine rn_loadP rfl rfl rfl rfl rfl (by simp; done) rfl rfl rfl rfl ⟨_, _, rfl, rfl, rfl⟩ ?_ | refine rn_eql rfl rfl rfl ⟨_, _, rfl, rfl, rfl⟩ ?_))
      refine FW.cond rfl (fun h3 => ?_) (fun h3 => ?_)
      ·exfalso; simp at h3; omega
      ·(repeat (first | refine FW.seq ?_ | refine FW.region ?_ | refine FW.skip ?_ | refine RunN.nil ?_ | refine rn_assign rfl rfl rfl ?_ | refine rn_move rfl rfl rfl ?_ | refine rn_lenOwn rfl rfl rfl (by decide) rfl rfl ?_ | refine rn_add rfl rfl (by omega) rfl rfl ?_))
       refine rn_callO (put_specI s.op (n % 3) s.out.length (by omega) (by omega) (by omega)) (by repeat (first | exact ArgsR.nil | refine ArgsR.cons (by first | exact ArgR.plain rfl rfl | exact ArgR.own rfl rfl (by decide) (by first | exact (fun _ => rfl) | (intro h; cases h)) (by first | rfl | (simp; done) | (congr 1; omega) | (simp; omega) | (simp [List.take_of_length_le]; done) | (refine congrArg (FV.int .i64) ?_; omega))) ?_)) (List.length_map _) rfl rfl rfl ?_
       (repeat (first | refine FW.seq ?_ | refine FW.region ?_ | refine FW.exit ?_ | refine RunN.nil ?_ | refine rn_assign rfl rfl rfl ?_ | refine rn_buildS1A rfl rfl rfl rfl rfl rfl rfl rfl rfl rfl ?_ | refine rn_move rfl rfl rfl ?_ | refine rn_indexO rfl rfl (by first | rfl | exact (Int.toNat_of_nonneg (by omega)).symm) rfl rfl rfl (by decide) rfl (by first | omega | (simp; omega) | (simp; done)) rfl rfl ?_ | refine rn_loadPA rfl rfl rfl (by decide) rfl rfl (by first | omega | (simp; omega) | (simp; done)) (by first | exact getD_map (by omega) | rfl) rfl rfl rfl ?_ | refine rn_storeR rfl rfl rfl rfl rfl rfl (by first | omega | (simp; omega) | (simp; done)) (by first | exact getD_map (by omega) | rfl) rfl rfl rfl ?_ | refine rn_add rfl rfl (by omega) rfl rfl ?_ | refine rn_appO rfl rfl (by first | exact (List.length_map _).symm | rfl | (simp; done) | omega | (simp; omega)) rfl rfl rfl (by decide) (by exact SrcR.own rfl rfl (by decide) (by first | exact List.length_map _ | exact (List.length_map _).symm | exact List.length_replicate | rfl | (simp; done) | omega | (simp; omega))) (by first | omega | (simp; omega) | (simp; done)) (by first | omega | (simp; omega) | (simp; done)) rfl rfl rfl ?_))
       have hw : hsW (hsKind false (n / 3)) = false := by simp at h1 h3; simp [hsW, hsKind]; omega
       have H : hsStep false (nth l i) s = ⟨s.out ++ [⟨nth s.pr (n % 3).toNat, n / 3 % 2, n / 3 / 2 % 2, 0, 0, (s.time : Int), 0, false⟩], s.pr, s.op.set (n % 3).toNat (s.out.length : Int), s.ef.set (n % 3).toNat false, s.rs, s.now, s.qs, s.time + 1, s.fresh⟩ := by
        unfold hsStep
        rw [hn, if_pos hop]
        unfold hsOpen hsNew
        simp only [hw, if_false, Bool.false_eq_true]
        rfl
       refine ⟨(i + 1, a, x, b, y), ⟨by show i + 1 ≤ _; omega, by dsimp only; rw [hnext _ H]; exact hqs⟩, by show min l.length 60 - (i + 1) < min l.length 60 - i; omega, ?_⟩
       dsimp only
       rw [hnext _ H]
       dsimp only
       rw [mapO_add, mapB_set]
       exact (FLe.conv [⟨100, some 92, 1, ⟨0, .own, 41, 8, (s.out.map OpV.fv ++ [OpV.fv ⟨nth s.pr (n % 3).toNat, n / 3 % 2, n / 3 / 2 % 2, 0, 0, (s.time : Int), 0, false⟩])⟩⟩, ⟨101, some 101, 0, ⟨0, .own, 3, 1, s.pr.map intf⟩⟩, ⟨102, some 85, 1, ⟨0, .own, 3, 1, (s.op.set (n % 3).toNat (s.out.length : Int)).map intf⟩⟩, ⟨103, some 103, 0, ⟨0, .own, 4, 1, ((s.ef.map boolf).set (n % 3).toNat [.bool false])⟩⟩, ⟨104, some 104, 0, ⟨0, .own, 3, 1, s.rs.map intf⟩⟩, ⟨105, some 105, 0, ⟨0, .own, 3, 1, s.now.map intf⟩⟩, ⟨106, some 106, 0, ⟨0, .hrow, 22, 1, [[.own 107 0 a.length x.length], [.own 108 0 b.length y.length]]⟩⟩, ⟨107, some 107, 0, ⟨0, .own, 3, 1, (a ++ x).map intf⟩⟩, ⟨108, some 108, 0, ⟨0, .own, 3, 1, (b ++ y).map intf⟩⟩] (by simp) (by simp) rfl (by repeat (first | exact .nil | refine .low rfl ?_ | refine .same rfl ?_ | refine .bump (Nat.lt_succ_self _) ?_)) (by repeat (first | exact .nil | refine .old rfl (by decide) (by first | rfl | (simp; done)) ?_ | refine .oldH rfl (by repeat (first | exact .nil | refine .cons (.own (.tail _ (.tail _ (.tail _ (.tail _ (.tail _ (.tail _ (.tail _ (.head _)))))))) rfl (by first | rfl | (simp; done)) (by first | rfl | (simp; done))) ?_ | refine .cons (.own (.tail _ (.tail _ (.tail _ (.tail _ (.tail _ (.tail _ (.tail _ (.tail _ (.head _))))))))) rfl (by first | rfl | (simp; done)) (by first | rfl | (simp; done))) ?_)) ?_)) (by repeat (first | exact .nil | refine .cons (.plain rfl rfl (by first | rfl | (simp; done))) ?_ | refine .cons (.own rfl (.head _) rfl (by first | rfl | (simp; done))) ?_ | refine .cons (.own rfl (.tail _ (.head _)) rfl (by first | rfl | (simp; done))) ?_ | refine .cons (.own rfl (.tail _ (.tail _ (.head _))) rfl (by first | rfl | (simp; done))) ?_ | refine .cons (.own rfl (.tail _ (.tail _ (.tail _ (.head _)))) rfl (by first | rfl | (simp; done))) ?_ | refine .cons (.own rfl (.tail _ (.tail _ (.tail _ (.tail _ (.head _))))) rfl (by first | rfl | (simp; done))) ?_ | refine .cons (.own rfl (.tail _ (.tail _ (.tail _ (.tail _ (.tail _ (.head _)))))) rfl (by first | rfl | (simp; done))) ?_ | refine .cons (.own rfl (.tail _ (.tail _ (.tail _ (.tail _ (.tail _ (.tail _ (.head _))))))) rfl (by first | rfl | (simp; done))) ?_)))
   ·have hop : 0 ≤ nth s.op (n % 3).toNat := by simp at hop; omega
    obtain ⟨hj1, hj2, hj3⟩ := hI.opn _ (show (n % 3).toNat < 3 by omega) hop
    have hO := hI.ops _ hj1
    obtain ⟨o, ho⟩ : ∃ o, nth s.out (nth s.op (n % 3).toNat).toNat = o := ⟨_, rfl⟩
    (repeat (first | refine FW.seq ?_ | refine FW.region ?_ | refine FW.skip ?_ | refine RunN.nil ?_ | refine rn_move rfl rfl rfl ?_ | refine rn_indexO rfl rfl (by exact (Int.toNat_of_nonneg (by omega)).symm) rfl rfl rfl (by decide) rfl (by first | omega | (simp; omega)) rfl rfl ?_ | refine rn_loadP rfl rfl rfl rfl rfl (by first | omega | (simp; omega)) (by exact getD_map (by omega)) rfl rfl rfl rfl ?_ | refine rn_loadPA rfl rfl rfl (by decide) rfl rfl (by first | omega | (simp; omega)) (by exact getD_map (by omega)) rfl rfl rfl ?_ | refine rn_alloc rfl rfl rfl rfl rfl rfl rfl ?_ | refine rn_storeVA rfl rfl rfl rfl rfl rfl rfl rfl rfl ?_ | refine rn_not rfl rfl rfl ?_))
    rw [ho] at hO hj3
    rw [ho]
    have hkey := hO.key
    refine FW.join (fun z : List Bool × List Int × List Int × List Int × List Int × List Int × List Int => ⟨[(0, .list 1 (l.map intf)), (1, .bool q), (5, .own 100 0 0 s.out.length), (6, .own 101 0 0 s.pr.length), (7, .own 102 0 0 s.op.length), (8, .own 103 0 0 z.1.length), (9, .own 104 0 0 z.2.1.length), (10, .own 105 0 0 z.2.2.1.length), (11, .own 106 0 0 2), (12, .int .i64 s.time), (13, .int .i64 s.fresh), (14, .int .i64 i), (15, .int .i64 n), (16, .int .i64 (n % 3)), (17, .int .i64 (n / 3)), (19, .ptr 109 0 0 0)], [(100, ⟨0, .own, 41, 8, s.out.map OpV.fv⟩), (101, ⟨0, .own, 3, 1, s.pr.map intf⟩), (102, ⟨0, .own, 3, 1, s.op.map intf⟩), (103, ⟨0, .own, 4, 1, z.1.map boolf⟩), (104, ⟨0, .own, 3, 1, z.2.1.map intf⟩), (105, ⟨0, .own, 3, 1, z.2.2.1.map intf⟩), (106, ⟨0, .hrow, 22, 1, [[.own 107 0 z.2.2.2.1.length z.2.2.2.2.1.length], [.own 108 0 z.2.2.2.2.2.1.length z.2.2.2.2.2.2.length]]⟩), (107, ⟨0, .own, 3, 1, (z.2.2.2.1 ++ z.2.2.2.2.1).map intf⟩), (108, ⟨0, .own, 3, 1, (z.2.2.2.2.2.1 ++ z.2.2.2.2.2.2).map intf⟩), (109, ⟨0, .own, 41, 8, [OpV.fv o]⟩)]⟩) (fun z => hsEffM (n % 3).toNat s = { s with ef := z.1, rs := z.2.1, now := z.2.2.1, qs := [z.2.2.2.2.1, z.2.2.2.2.2.2] }) ?_ ?_
    ·refine FW.cond rfl (fun hef => ?_) (fun hef => ?_)
     ·have hef : nth s.ef (n % 3).toNat ≠ true := by simpa using hef
      have hEM : hsEffM (n % 3).toNat s = hsEff o (n % 3).toNat s := by unfold hsEffM; rw [if_neg hef, ho]
      (repeat (first | refine FW.seq ?_ | refine FW.region ?_ | refine RunN.nil ?_ | refine rn_move rfl rfl rfl ?_ | refine rn_indexO rfl rfl (by exact (Int.toNat_of_nonneg (by omega)).symm) rfl rfl rfl (by decide) rfl (by first | omega | (simp; omega)) rfl rfl ?_ | refine rn_storeR rfl rfl rfl rfl rfl rfl (by first | omega | (simp; omega)) (by exact getD_map (by omega)) rfl rfl rfl ?_))
      refine rn_callO (put_specI s.rs (n % 3) 0 (by omega) (by omega) (by omega)) (by repeat (first | exact ArgsR.nil | refine ArgsR.cons (by first | exact ArgR.plain rfl rfl | exact ArgR.own rfl rfl (by decide) (by first | exact (fun _ => rfl) | (intro h; cases h)) (by first | rfl | (simp; done) | (congr 1; omega) | (simp; omega) | (simp [List.take_of_length_le]; done) | (refine congrArg (FV.int .i64) ?_; omega))) ?_)) (List.length_map _) rfl rfl rfl ?_
      (repeat (first | refine FW.seq ?_ | refine FW.region ?_ | refine FW.block ?_ | refine RunN.nil ?_ | refine rn_assign rfl rfl rfl ?_ | refine rn_loadP rfl rfl rfl rfl rfl (by simp; done) rfl rfl rfl rfl rfl ?_ | refine rn_fieldP rfl rfl rfl rfl rfl rfl (by decide) rfl rfl ?_ | refine rn_eql rfl rfl rfl rfl ?_))
      refine FW.cond rfl (fun h1 => ?_) (fun h1 => ?_)
      ·have h1 : o.k = 1 := by simpa using h1
       (repeat (first | refine FW.region ?_ | refine rn_move rfl rfl rfl ?_ | refine rn_loadP rfl rfl rfl rfl rfl (by simp; done) rfl rfl rfl rfl rfl ?_ | refine rn_fieldP rfl rfl rfl rfl rfl rfl (by decide) rfl rfl ?_))
       refine rn_callO (put_specI s.now o.key o.arg (by omega) (by omega) (by omega)) (by repeat (first | exact ArgsR.nil | refine ArgsR.cons (by first | exact ArgR.plain rfl rfl | exact ArgR.own rfl rfl (by decide) (by first | exact (fun _ => rfl) | (intro h; cases h)) (by first | rfl | (simp; done) | (congr 1; omega) | (simp; omega) | (simp [List.take_of_length_le]; done) | (refine congrArg (FV.int .i64) ?_; omega))) ?_)) (List.length_map _) rfl rfl rfl ?_
       (repeat (first | refine RunN.nil ?_ | refine rn_assign rfl rfl rfl ?_))
       refine ⟨rfl, (s.ef.set (n % 3).toNat true, s.rs.set (n % 3).toNat 0, s.now.set o.key.toNat o.arg, a, x, b, y), ?_, ?_⟩
       ·show hsEffM (n % 3).toNat s = _
        dsimp only
        rw [hEM]; unfold hsEff; rw [if_pos h1, ← hqs]
       ·dsimp only
        rw [mapB_set]
        exact (FLe.conv [⟨100, some 100, 0, ⟨0, .own, 41, 8, s.out.map OpV.fv⟩⟩, ⟨101, some 101, 0, ⟨0, .own, 3, 1, s.pr.map intf⟩⟩, ⟨102, some 102, 0, ⟨0, .own, 3, 1, s.op.map intf⟩⟩, ⟨103, some 103, 0, ⟨0, .own, 4, 1, ((s.ef.map boolf).set (n % 3).toNat [.bool true])⟩⟩, ⟨104, some 110, 1, ⟨0, .own, 3, 1, (s.rs.set (n % 3).toNat 0).map intf⟩⟩, ⟨105, some 147, 1, ⟨0, .own, 3, 1, (s.now.set o.key.toNat o.arg).map intf⟩⟩, ⟨106, some 106, 0, ⟨0, .hrow, 22, 1, [[.own 107 0 a.length x.length], [.own 108 0 b.length y.length]]⟩⟩, ⟨107, some 107, 0, ⟨0, .own, 3, 1, (a ++ x).map intf⟩⟩, ⟨108, some 108, 0, ⟨0, .own, 3, 1, (b ++ y).map intf⟩⟩, ⟨109, some 19, 1, ⟨0, .own, 41, 8, [OpV.fv o]⟩⟩] (by simp) (by simp) rfl (by repeat (first | exact .nil | refine .low rfl ?_ | refine .same rfl ?_ | refine .bump (Nat.lt_succ_self _) ?_)) (by repeat (first | exact .nil | refine .old rfl (by decide) (by first | rfl | (simp; done)) ?_ | refine .oldH rfl (by repeat (first | exact .nil | refine .cons (.own (.tail _ (.tail _ (.tail _ (.tail _ (.tail _ (.tail _ (.tail _ (.head _)))))))) rfl (by first | rfl | (simp; done)) (by first | rfl | (simp; done))) ?_ | refine .cons (.own (.tail _ (.tail _ (.tail _ (.tail _ (.tail _ (.tail _ (.tail _ (.tail _ (.head _))))))))) rfl (by first | rfl | (simp; done)) (by first | rfl | (simp; done))) ?_)) ?_)) (by repeat (first | exact .nil | refine .cons (.plain rfl rfl (by first | rfl | (simp; done))) ?_ | refine .cons (.own rfl (.head _) rfl (by first | rfl | (simp; done))) ?_ | refine .cons (.own rfl (.tail _ (.head _)) rfl (by first | rfl | (simp; done))) ?_ | refine .cons (.own rfl (.tail _ (.tail _ (.head _))) rfl (by first | rfl | (simp; done))) ?_ | refine .cons (.own rfl (.tail _ (.tail _ (.tail _ (.head _)))) rfl (by first | rfl | (simp; done))) ?_ | refine .cons (.own rfl (.tail _ (.tail _ (.tail _ (.tail _ (.head _))))) rfl (by first | rfl | (simp; done))) ?_ | refine .cons (.own rfl (.tail _ (.tail _ (.tail _ (.tail _ (.tail _ (.head _)))))) rfl (by first | rfl | (simp; done))) ?_ | refine .cons (.own rfl (.tail _ (.tail _ (.tail _ (.tail _ (.tail _ (.tail _ (.head _))))))) rfl (by first | rfl | (simp; done))) ?_ | refine .cons (.ptr rfl (.tail _ (.tail _ (.tail _ (.tail _ (.tail _ (.tail _ (.tail _ (.tail _ (.tail _ (.head _)))))))))) rfl) ?_)))
      ·have h1 : o.k ≠ 1 := by simpa using h1
       (repeat (first | refine FW.seq ?_ | refine FW.region ?_ | refine RunN.nil ?_ | refine rn_assign rfl rfl rfl ?_ | refine rn_eql rfl rfl rfl rfl ?_))
       refine FW.cond rfl (fun h0 => ?_) (fun h0 => ?_)
       ·have h0 : o.k = 0 := by simpa using h0
        (repeat (first | refine FW.region ?_ | refine rn_move rfl rfl rfl ?_ | refine rn_indexO rfl rfl (by first | rfl | exact (Int.toNat_of_nonneg (by omega)).symm) rfl rfl rfl (by decide) rfl (by first | omega | (simp; omega) | (simp; done)) rfl rfl ?_ | refine rn_loadP rfl rfl rfl rfl rfl (by first | omega | (simp; omega) | (simp; done)) (by first | exact getD_map (by omega) | rfl) rfl rfl rfl rfl ?_ | refine rn_fieldP rfl rfl rfl rfl rfl rfl (by decide) rfl rfl ?_))
        refine rn_callO (put_specI (s.rs.set (n % 3).toNat 0) (n % 3) (nth s.now o.key.toNat) (by simp; omega) (by omega) (by simp; omega)) (by repeat (first | exact ArgsR.nil | refine ArgsR.cons (by first | exact ArgR.plain rfl rfl | exact ArgR.own rfl rfl (by decide) (by first | exact (fun _ => rfl) | (intro h; cases h)) (by first | rfl | (simp; done) | (congr 1; omega) | (simp; omega) | (simp [List.take_of_length_le]; done) | (refine congrArg (FV.int .i64) ?_; omega))) ?_)) (List.length_map _) rfl rfl rfl ?_
        (repeat (first | refine RunN.nil ?_ | refine rn_assign rfl rfl rfl ?_))
        refine ⟨rfl, (s.ef.set (n % 3).toNat true, (s.rs.set (n % 3).toNat 0).set (n % 3).toNat (nth s.now o.key.toNat), s.now, a, x, b, y), ?_, ?_⟩
        ·show hsEffM (n % 3).toNat s = _
         dsimp only
         rw [hEM]; unfold hsEff; rw [if_neg h1, if_pos h0, List.set_set, ← hqs]
        ·dsimp only
         rw [mapB_set]
         exact (FLe.conv [⟨100, some 100, 0, ⟨0, .own, 41, 8, s.out.map OpV.fv⟩⟩, ⟨101, some 101, 0, ⟨0, .own, 3, 1, s.pr.map intf⟩⟩, ⟨102, some 102, 0, ⟨0, .own, 3, 1, s.op.map intf⟩⟩, ⟨103, some 103, 0, ⟨0, .own, 4, 1, ((s.ef.map boolf).set (n % 3).toNat [.bool true])⟩⟩, ⟨104, some 157, 1, ⟨0, .own, 3, 1, ((s.rs.set (n % 3).toNat 0).set (n % 3).toNat (nth s.now o.key.toNat)).map intf⟩⟩, ⟨105, some 105, 0, ⟨0, .own, 3, 1, s.now.map intf⟩⟩, ⟨106, some 106, 0, ⟨0, .hrow, 22, 1, [[.own 107 0 a.length x.length], [.own 108 0 b.length y.length]]⟩⟩, ⟨107, some 107, 0, ⟨0, .own, 3, 1, (a ++ x).map intf⟩⟩, ⟨108, some 108, 0, ⟨0, .own, 3, 1, (b ++ y).map intf⟩⟩, ⟨109, some 19, 1, ⟨0, .own, 41, 8, [OpV.fv o]⟩⟩] (by simp) (by simp) rfl (by repeat (first | exact .nil | refine .low rfl ?_ | refine .same rfl ?_ | refine .bump (Nat.lt_succ_self _) ?_)) (by repeat (first | exact .nil | refine .old rfl (by decide) (by first | rfl | (simp; done)) ?_ | refine .oldH rfl (by repeat (first | exact .nil | refine .cons (.own (.tail _ (.tail _ (.tail _ (.tail _ (.tail _ (.tail _ (.tail _ (.head _)))))))) rfl (by first | rfl | (simp; done)) (by first | rfl | (simp; done))) ?_ | refine .cons (.own (.tail _ (.tail _ (.tail _ (.tail _ (.tail _ (.tail _ (.tail _ (.tail _ (.head _))))))))) rfl (by first | rfl | (simp; done)) (by first | rfl | (simp; done))) ?_)) ?_)) (by repeat (first | exact .nil | refine .cons (.plain rfl rfl (by first | rfl | (simp; done))) ?_ | refine .cons (.own rfl (.head _) rfl (by first | rfl | (simp; done))) ?_ | refine .cons (.own rfl (.tail _ (.head _)) rfl (by first | rfl | (simp; done))) ?_ | refine .cons (.own rfl (.tail _ (.tail _ (.head _))) rfl (by first | rfl | (simp; done))) ?_ | refine .cons (.own rfl (.tail _ (.tail _ (.tail _ (.head _)))) rfl (by first | rfl | (simp; done))) ?_ | refine .cons (.own rfl (.tail _ (.tail _ (.tail _ (.tail _ (.head _))))) rfl (by first | rfl | (simp; done))) ?_ | refine .cons (.own rfl (.tail _ (.tail _ (.tail _ (.tail _ (.tail _ (.head _)))))) rfl (by first | rfl | (simp; done))) ?_ | refine .cons (.own rfl (.tail _ (.tail _ (.tail _ (.tail _ (.tail _ (.tail _ (.head _))))))) rfl (by first | rfl | (simp; done))) ?_ | refine .cons (.ptr rfl (.tail _ (.tail _ (.tail _ (.tail _ (.tail _ (.tail _ (.tail _ (.tail _ (.tail _ (.head _)))))))))) rfl) ?_)))
       ·have h0 : o.k ≠ 0 := by simpa using h0
        (repeat (first | refine FW.seq ?_ | refine FW.region ?_ | refine RunN.nil ?_ | refine rn_assign rfl rfl rfl ?_ | refine rn_eql rfl rfl rfl rfl ?_))
        refine FW.cond rfl (fun h3 => ?_) (fun h3 => ?_)
        ·have h3 : o.k = 3 := by simpa using h3
         skip
         rcases (show o.key = 0 ∨ o.key = 1 by omega) with hk | hk
         ·have hkn : o.key.toNat = 0 := by omega
          refine FW.split 107 rfl ?_ ?_
          ·(repeat (first | refine FW.draw ?_ | refine rd_move rfl rfl rfl ?_ | refine rd_indexO rfl rfl (by first | rfl | exact (Int.toNat_of_nonneg (by omega)).symm) rfl rfl rfl (by decide) rfl (by first | omega | (simp; omega) | (simp; done)) rfl rfl ?_ | refine rd_loadP rfl rfl rfl rfl rfl (by first | omega | (simp; omega) | (simp; done)) rfl rfl rfl rfl rfl ?_ | refine rd_fieldP rfl rfl rfl rfl rfl rfl (by decide) rfl rfl ?_))
           rw [hkn]
           (repeat (first | refine RunD.nil ?_ | refine rd_buildS1 rfl rfl rfl rfl rfl rfl rfl rfl ?_ | refine rd_indexO rfl rfl (by first | rfl | exact (Int.toNat_of_nonneg (by omega)).symm) rfl rfl rfl (by decide) rfl (by first | omega | (simp; omega) | (simp; done)) rfl rfl ?_ | refine rd_loadP rfl rfl rfl rfl rfl (by first | omega | (simp; omega) | (simp; done)) rfl rfl rfl rfl rfl ?_ | refine rd_loadH rfl rfl rfl rfl rfl rfl rfl ?_ | refine rd_storeHO rfl rfl rfl rfl rfl rfl (by decide) (by first | omega | (simp; omega) | (simp; done)) rfl ?_ | refine rd_fieldP rfl rfl rfl rfl rfl rfl (by decide) rfl rfl ?_ | refine rd_appR rfl rfl (by first | rfl | (simp; done) | omega | (simp; omega)) rfl rfl rfl (by decide) (by exact SrcR.own rfl rfl (by decide) (by first | exact List.length_map _ | exact (List.length_map _).symm | exact List.length_replicate | rfl | (simp; done) | omega | (simp; omega))) rfl rfl rfl rfl ?_))
           refine ⟨by kernel_rfl, ?_⟩
           skip
           refine ⟨rfl, (s.ef.set (n % 3).toNat true, s.rs.set (n % 3).toNat 0, s.now, a, (x ++ [o.arg]), b, y), ?_, ?_⟩
           ·show hsEffM (n % 3).toNat s = _
            dsimp only
            rw [hEM]; unfold hsEff; rw [if_neg h1, if_neg h0, if_pos h3, hkn, hqs]; rfl
           ·dsimp only
            rw [mapB_set, hkn, mapQ_add a x o.arg]
            exact (FLe.conv [⟨100, some 100, 0, ⟨0, .own, 41, 8, s.out.map OpV.fv⟩⟩, ⟨101, some 101, 0, ⟨0, .own, 3, 1, s.pr.map intf⟩⟩, ⟨102, some 102, 0, ⟨0, .own, 3, 1, s.op.map intf⟩⟩, ⟨103, some 103, 0, ⟨0, .own, 4, 1, ((s.ef.map boolf).set (n % 3).toNat [.bool true])⟩⟩, ⟨104, some 110, 1, ⟨0, .own, 3, 1, (s.rs.set (n % 3).toNat 0).map intf⟩⟩, ⟨105, some 105, 0, ⟨0, .own, 3, 1, s.now.map intf⟩⟩, ⟨106, some 106, 0, ⟨0, .hrow, 22, 1, [[.own 107 0 a.length (x ++ [o.arg]).length], [.own 108 0 b.length y.length]]⟩⟩, ⟨107, some 171, 1, ⟨0, .own, 3, 1, ((a ++ x).map intf ++ [intf o.arg])⟩⟩, ⟨108, some 108, 0, ⟨0, .own, 3, 1, (b ++ y).map intf⟩⟩, ⟨109, some 19, 1, ⟨0, .own, 41, 8, [OpV.fv o]⟩⟩] (by simp) (by simp) rfl (by repeat (first | exact .nil | refine .low rfl ?_ | refine .same rfl ?_ | refine .bump (Nat.lt_succ_self _) ?_)) (by repeat (first | exact .nil | refine .old rfl (by decide) (by first | rfl | (simp; done)) ?_ | refine .oldH rfl (by repeat (first | exact .nil | refine .cons (.own (.tail _ (.tail _ (.tail _ (.tail _ (.tail _ (.tail _ (.tail _ (.head _)))))))) rfl (by first | rfl | (simp; done)) (by first | rfl | (simp; done))) ?_ | refine .cons (.own (.tail _ (.tail _ (.tail _ (.tail _ (.tail _ (.tail _ (.tail _ (.tail _ (.head _))))))))) rfl (by first | rfl | (simp; done)) (by first | rfl | (simp; done))) ?_)) ?_)) (by repeat (first | exact .nil | refine .cons (.plain rfl rfl (by first | rfl | (simp; done))) ?_ | refine .cons (.own rfl (.head _) rfl (by first | rfl | (simp; done))) ?_ | refine .cons (.own rfl (.tail _ (.head _)) rfl (by first | rfl | (simp; done))) ?_ | refine .cons (.own rfl (.tail _ (.tail _ (.head _))) rfl (by first | rfl | (simp; done))) ?_ | refine .cons (.own rfl (.tail _ (.tail _ (.tail _ (.head _)))) rfl (by first | rfl | (simp; done))) ?_ | refine .cons (.own rfl (.tail _ (.tail _ (.tail _ (.tail _ (.head _))))) rfl (by first | rfl | (simp; done))) ?_ | refine .cons (.own rfl (.tail _ (.tail _ (.tail _ (.tail _ (.tail _ (.head _)))))) rfl (by first | rfl | (simp; done))) ?_ | refine .cons (.own rfl (.tail _ (.tail _ (.tail _ (.tail _ (.tail _ (.tail _ (.head _))))))) rfl (by first | rfl | (simp; done))) ?_ | refine .cons (.ptr rfl (.tail _ (.tail _ (.tail _ (.tail _ (.tail _ (.tail _ (.tail _ (.tail _ (.tail _ (.head _)))))))))) rfl) ?_)))
          ·(repeat (first | refine FW.draw ?_ | refine rd_move rfl rfl rfl ?_ | refine rd_indexO rfl rfl (by first | rfl | exact (Int.toNat_of_nonneg (by omega)).symm) rfl rfl rfl (by decide) rfl (by first | omega | (simp; omega) | (simp; done)) rfl rfl ?_ | refine rd_loadP rfl rfl rfl rfl rfl (by first | omega | (simp; omega) | (simp; done)) rfl rfl rfl rfl rfl ?_ | refine rd_fieldP rfl rfl rfl rfl rfl rfl (by decide) rfl rfl ?_))
           rw [hkn]
           (repeat (first | refine RunD.nil ?_ | refine rd_buildS1 rfl rfl rfl rfl rfl rfl rfl rfl ?_ | refine rd_indexO rfl rfl (by first | rfl | exact (Int.toNat_of_nonneg (by omega)).symm) rfl rfl rfl (by decide) rfl (by first | omega | (simp; omega) | (simp; done)) rfl rfl ?_ | refine rd_loadP rfl rfl rfl rfl rfl (by first | omega | (simp; omega) | (simp; done)) rfl rfl rfl rfl rfl ?_ | refine rd_loadH rfl rfl rfl rfl rfl rfl rfl ?_ | refine rd_storeHO rfl rfl rfl rfl rfl rfl (by decide) (by first | omega | (simp; omega) | (simp; done)) rfl ?_ | refine rd_fieldP rfl rfl rfl rfl rfl rfl (by decide) rfl rfl ?_ | refine rd_appF rfl rfl (by first | rfl | (simp; done) | omega | (simp; omega)) rfl rfl rfl (by decide) (by exact SrcR.own rfl rfl (by decide) (by first | exact List.length_map _ | exact (List.length_map _).symm | exact List.length_replicate | rfl | (simp; done) | omega | (simp; omega))) rfl (by first | omega | (simp; omega) | (simp; done)) (by first | omega | (simp; omega) | (simp; done)) rfl rfl rfl ?_))
           refine ⟨by kernel_rfl, ?_⟩
           skip
           refine ⟨rfl, (s.ef.set (n % 3).toNat true, s.rs.set (n % 3).toNat 0, s.now, ([] : List Int), (x ++ [o.arg]), b, y), ?_, ?_⟩
           ·show hsEffM (n % 3).toNat s = _
            dsimp only
            rw [hEM]; unfold hsEff; rw [if_neg h1, if_neg h0, if_pos h3, hkn, hqs]; rfl
           ·dsimp only
            rw [mapB_set, hkn, mapQ_full a x o.arg]
            exact (FLe.conv [⟨100, some 100, 0, ⟨0, .own, 41, 8, s.out.map OpV.fv⟩⟩, ⟨101, some 101, 0, ⟨0, .own, 3, 1, s.pr.map intf⟩⟩, ⟨102, some 102, 0, ⟨0, .own, 3, 1, s.op.map intf⟩⟩, ⟨103, some 103, 0, ⟨0, .own, 4, 1, ((s.ef.map boolf).set (n % 3).toNat [.bool true])⟩⟩, ⟨104, some 110, 1, ⟨0, .own, 3, 1, (s.rs.set (n % 3).toNat 0).map intf⟩⟩, ⟨105, some 105, 0, ⟨0, .own, 3, 1, s.now.map intf⟩⟩, ⟨106, some 106, 0, ⟨0, .hrow, 22, 1, [[.own 107 0 ([] : List Int).length (x ++ [o.arg]).length], [.own 108 0 b.length y.length]]⟩⟩, ⟨107, some 171, 1, ⟨0, .own, 3, 1, (((a ++ x).map intf).drop a.length ++ [intf o.arg])⟩⟩, ⟨108, some 108, 0, ⟨0, .own, 3, 1, (b ++ y).map intf⟩⟩, ⟨109, some 19, 1, ⟨0, .own, 41, 8, [OpV.fv o]⟩⟩] (by simp) (by simp) rfl (by repeat (first | exact .nil | refine .low rfl ?_ | refine .same rfl ?_ | refine .bump (Nat.lt_succ_self _) ?_)) (by repeat (first | exact .nil | refine .old rfl (by decide) (by first | rfl | (simp; done)) ?_ | refine .oldH rfl (by repeat (first | exact .nil | refine .cons (.own (.tail _ (.tail _ (.tail _ (.tail _ (.tail _ (.tail _ (.tail _ (.head _)))))))) rfl (by first | rfl | (simp; done)) (by first | rfl | (simp; done))) ?_ | refine .cons (.own (.tail _ (.tail _ (.tail _ (.tail _ (.tail _ (.tail _ (.tail _ (.tail _ (.head _))))))))) rfl (by first | rfl | (simp; done)) (by first | rfl | (simp; done))) ?_)) ?_)) (by repeat (first | exact .nil | refine .cons (.plain rfl rfl (by first | rfl | (simp; done))) ?_ | refine .cons (.own rfl (.head _) rfl (by first | rfl | (simp; done))) ?_ | refine .cons (.own rfl (.tail _ (.head _)) rfl (by first | rfl | (simp; done))) ?_ | refine .cons (.own rfl (.tail _ (.tail _ (.head _))) rfl (by first | rfl | (simp; done))) ?_ | refine .cons (.own rfl (.tail _ (.tail _ (.tail _ (.head _)))) rfl (by first | rfl | (simp; done))) ?_ | refine .cons (.own rfl (.tail _ (.tail _ (.tail _ (.tail _ (.head _))))) rfl (by first | rfl | (simp; done))) ?_ | refine .cons (.own rfl (.tail _ (.tail _ (.tail _ (.tail _ (.tail _ (.head _)))))) rfl (by first | rfl | (simp; done))) ?_ | refine .cons (.own rfl (.tail _ (.tail _ (.tail _ (.tail _ (.tail _ (.tail _ (.head _))))))) rfl (by first | rfl | (simp; done))) ?_ | refine .cons (.ptr rfl (.tail _ (.tail _ (.tail _ (.tail _ (.tail _ (.tail _ (.tail _ (.tail _ (.tail _ (.head _)))))))))) rfl) ?_)))
         ·have hkn : o.key.toNat = 1 := by omega
          refine FW.split 108 rfl ?_ ?_
          ·(repeat (first | refine FW.draw ?_ | refine rd_move rfl rfl rfl ?_ | refine rd_indexO rfl rfl (by first | rfl | exact (Int.toNat_of_nonneg (by omega)).symm) rfl rfl rfl (by decide) rfl (by first | omega | (simp; omega) | (simp; done)) rfl rfl ?_ | refine rd_loadP rfl rfl rfl rfl rfl (by first | omega | (simp; omega) | (simp; done)) rfl rfl rfl rfl rfl ?_ | refine rd_fieldP rfl rfl rfl rfl rfl rfl (by decide) rfl rfl ?_))
           rw [hkn]
           (repeat (first | refine RunD.nil ?_ | refine rd_buildS1 rfl rfl rfl rfl rfl rfl rfl rfl ?_ | refine rd_indexO rfl rfl (by first | rfl | exact (Int.toNat_of_nonneg (by omega)).symm) rfl rfl rfl (by decide) rfl (by first | omega | (simp; omega) | (simp; done)) rfl rfl ?_ | refine rd_loadP rfl rfl rfl rfl rfl (by first | omega | (simp; omega) | (simp; done)) rfl rfl rfl rfl rfl ?_ | refine rd_loadH rfl rfl rfl rfl rfl rfl rfl ?_ | refine rd_storeHO rfl rfl rfl rfl rfl rfl (by decide) (by first | omega | (simp; omega) | (simp; done)) rfl ?_ | refine rd_fieldP rfl rfl rfl rfl rfl rfl (by decide) rfl rfl ?_ | refine rd_appR rfl rfl (by first | rfl | (simp; done) | omega | (simp; omega)) rfl rfl rfl (by decide) (by exact SrcR.own rfl rfl (by decide) (by first | exact List.length_map _ | exact (List.length_map _).symm | exact List.length_replicate | rfl | (simp; done) | omega | (simp; omega))) rfl rfl rfl rfl ?_))
           refine ⟨by kernel_rfl, ?_⟩
           skip
           refine ⟨rfl, (s.ef.set (n % 3).toNat true, s.rs.set (n % 3).toNat 0, s.now, a, x, b, (y ++ [o.arg])), ?_, ?_⟩
           ·show hsEffM (n % 3).toNat s = _
            dsimp only
            rw [hEM]; unfold hsEff; rw [if_neg h1, if_neg h0, if_pos h3, hkn, hqs]; rfl
           ·dsimp only
            rw [mapB_set, hkn, mapQ_add b y o.arg]
            exact (FLe.conv [⟨100, some 100, 0, ⟨0, .own, 41, 8, s.out.map OpV.fv⟩⟩, ⟨101, some 101, 0, ⟨0, .own, 3, 1, s.pr.map intf⟩⟩, ⟨102, some 102, 0, ⟨0, .own, 3, 1, s.op.map intf⟩⟩, ⟨103, some 103, 0, ⟨0, .own, 4, 1, ((s.ef.map boolf).set (n % 3).toNat [.bool true])⟩⟩, ⟨104, some 110, 1, ⟨0, .own, 3, 1, (s.rs.set (n % 3).toNat 0).map intf⟩⟩, ⟨105, some 105, 0, ⟨0, .own, 3, 1, s.now.map intf⟩⟩, ⟨106, some 106, 0, ⟨0, .hrow, 22, 1, [[.own 107 0 a.length x.length], [.own 108 0 b.length (y ++ [o.arg]).length]]⟩⟩, ⟨107, some 107, 0, ⟨0, .own, 3, 1, (a ++ x).map intf⟩⟩, ⟨108, some 171, 1, ⟨0, .own, 3, 1, ((b ++ y).map intf ++ [intf o.arg])⟩⟩, ⟨109, some 19, 1, ⟨0, .own, 41, 8, [OpV.fv o]⟩⟩] (by simp) (by simp) rfl (by repeat (first | exact .nil | refine .low rfl ?_ | refine .same rfl ?_ | refine .bump (Nat.lt_succ_self _) ?_)) (by repeat (first | exact .nil | refine .old rfl (by decide) (by first | rfl | (simp; done)) ?_ | refine .oldH rfl (by repeat (first | exact .nil | refine .cons (.own (.tail _ (.tail _ (.tail _ (.tail _ (.tail _ (.tail _ (.tail _ (.head _)))))))) rfl (by first | rfl | (simp; done)) (by first | rfl | (simp; done))) ?_ | refine .cons (.own (.tail _ (.tail _ (.tail _ (.tail _ (.tail _ (.tail _ (.tail _ (.tail _ (.head _))))))))) rfl (by first | rfl | (simp; done)) (by first | rfl | (simp; done))) ?_)) ?_)) (by repeat (first | exact .nil | refine .cons (.plain rfl rfl (by first | rfl | (simp; done))) ?_ | refine .cons (.own rfl (.head _) rfl (by first | rfl | (simp; done))) ?_ | refine .cons (.own rfl (.tail _ (.head _)) rfl (by first | rfl | (simp; done))) ?_ | refine .cons (.own rfl (.tail _ (.tail _ (.head _))) rfl (by first | rfl | (simp; done))) ?_ | refine .cons (.own rfl (.tail _ (.tail _ (.tail _ (.head _)))) rfl (by first | rfl | (simp; done))) ?_ | refine .cons (.own rfl (.tail _ (.tail _ (.tail _ (.tail _ (.head _))))) rfl (by first | rfl | (simp; done))) ?_ | refine .cons (.own rfl (.tail _ (.tail _ (.tail _ (.tail _ (.tail _ (.head _)))))) rfl (by first | rfl | (simp; done))) ?_ | refine .cons (.own rfl (.tail _ (.tail _ (.tail _ (.tail _ (.tail _ (.tail _ (.head _))))))) rfl (by first | rfl | (simp; done))) ?_ | refine .cons (.ptr rfl (.tail _ (.tail _ (.tail _ (.tail _ (.tail _ (.tail _ (.tail _ (.tail _ (.tail _ (.head _)))))))))) rfl) ?_)))
          ·(repeat (first | refine FW.draw ?_ | refine rd_move rfl rfl rfl ?_ | refine rd_indexO rfl rfl (by first | rfl | exact (Int.toNat_of_nonneg (by omega)).symm) rfl rfl rfl (by decide) rfl (by first | omega | (simp; omega) | (simp; done)) rfl rfl ?_ | refine rd_loadP rfl rfl rfl rfl rfl (by first | omega | (simp; omega) | (simp; done)) rfl rfl rfl rfl rfl ?_ | refine rd_fieldP rfl rfl rfl rfl rfl rfl (by decide) rfl rfl ?_))
           rw [hkn]
           (repeat (first | refine RunD.nil ?_ | refine rd_buildS1 rfl rfl rfl rfl rfl rfl rfl rfl ?_ | refine rd_indexO rfl rfl (by first | rfl | exact (Int.toNat_of_nonneg (by omega)).symm) rfl rfl rfl (by decide) rfl (by first | omega | (simp; omega) | (simp; done)) rfl rfl ?_ | refine rd_loadP rfl rfl rfl rfl rfl (by first | omega | (simp; omega) | (simp; done)) rfl rfl rfl rfl rfl ?_ | refine rd_loadH rfl rfl rfl rfl rfl rfl rfl ?_ | refine rd_storeHO rfl rfl rfl rfl rfl rfl (by decide) (by first | omega | (simp; omega) | (simp; done)) rfl ?_ | refine rd_fieldP rfl rfl rfl rfl rfl rfl (by decide) rfl rfl ?_ | refine rd_appF rfl rfl (by first | rfl | (simp; done) | omega | (simp; omega)) rfl rfl rfl (by decide) (by exact SrcR.own rfl rfl (by decide) (by first | exact List.length_map _ | exact (List.length_map _).symm | exact List.length_replicate | rfl | (simp; done) | omega | (simp; omega))) rfl (by first | omega | (simp; omega) | (simp; done)) (by first | omega | (simp; omega) | (simp; done)) rfl rfl rfl ?_))
           refine ⟨by kernel_rfl, ?_⟩
           skip
           refine ⟨rfl, (s.ef.set (n % 3).toNat true, s.rs.set (n % 3).toNat 0, s.now, a, x, ([] : List Int), (y ++ [o.arg])), ?_, ?_⟩
           ·show hsEffM (n % 3).toNat s = _
            dsimp only
            rw [hEM]; unfold hsEff; rw [if_neg h1, if_neg h0, if_pos h3, hkn, hqs]; rfl
           ·dsimp only
            rw [mapB_set, hkn, mapQ_full b y o.arg]
            exact (FLe.conv [⟨100, some 100, 0, ⟨0, .own, 41, 8, s.out.map OpV.fv⟩⟩, ⟨101, some 101, 0, ⟨0, .own, 3, 1, s.pr.map intf⟩⟩, ⟨102, some 102, 0, ⟨0, .own, 3, 1, s.op.map intf⟩⟩, ⟨103, some 103, 0, ⟨0, .own, 4, 1, ((s.ef.map boolf).set (n % 3).toNat [.bool true])⟩⟩, ⟨104, some 110, 1, ⟨0, .own, 3, 1, (s.rs.set (n % 3).toNat 0).map intf⟩⟩, ⟨105, some 105, 0, ⟨0, .own, 3, 1, s.now.map intf⟩⟩, ⟨106, some 106, 0, ⟨0, .hrow, 22, 1, [[.own 107 0 a.length x.length], [.own 108 0 ([] : List Int).length (y ++ [o.arg]).length]]⟩⟩, ⟨107, some 107, 0, ⟨0, .own, 3, 1, (a ++ x).map intf⟩⟩, ⟨108, some 171, 1, ⟨0, .own, 3, 1, (((b ++ y).map intf).drop b.length ++ [intf o.arg])⟩⟩, ⟨109, some 19, 1, ⟨0, .own, 41, 8, [OpV.fv o]⟩⟩] (by simp) (by simp) rfl (by repeat (first | exact .nil | refine .low rfl ?_ | refine .same rfl ?_ | refine .bump (Nat.lt_succ_self _) ?_)) (by repeat (first | exact .nil | refine .old rfl (by decide) (by first | rfl | (simp; done)) ?_ | refine .oldH rfl (by repeat (first | exact .nil | refine .cons (.own (.tail _ (.tail _ (.tail _ (.tail _ (.tail _ (.tail _ (.tail _ (.head _)))))))) rfl (by first | rfl | (simp; done)) (by first | rfl | (simp; done))) ?_ | refine .cons (.own (.tail _ (.tail _ (.tail _ (.tail _ (.tail _ (.tail _ (.tail _ (.tail _ (.head _))))))))) rfl (by first | rfl | (simp; done)) (by first | rfl | (simp; done))) ?_)) ?_)) (by repeat (first | exact .nil | refine .cons (.plain rfl rfl (by first | rfl | (simp; done))) ?_ | refine .cons (.own rfl (.head _) rfl (by first | rfl | (simp; done))) ?_ | refine .cons (.own rfl (.tail _ (.head _)) rfl (by first | rfl | (simp; done))) ?_ | refine .cons (.own rfl (.tail _ (.tail _ (.head _))) rfl (by first | rfl | (simp; done))) ?_ | refine .cons (.own rfl (.tail _ (.tail _ (.tail _ (.head _)))) rfl (by first | rfl | (simp; done))) ?_ | refine .cons (.own rfl (.tail _ (.tail _ (.tail _ (.tail _ (.head _))))) rfl (by first | rfl | (simp; done))) ?_ | refine .cons (.own rfl (.tail _ (.tail _ (.tail _ (.tail _ (.tail _ (.head _)))))) rfl (by first | rfl | (simp; done))) ?_ | refine .cons (.own rfl (.tail _ (.tail _ (.tail _ (.tail _ (.tail _ (.tail _ (.head _))))))) rfl (by first | rfl | (simp; done))) ?_ | refine .cons (.ptr rfl (.tail _ (.tail _ (.tail _ (.tail _ (.tail _ (.tail _ (.tail _ (.tail _ (.tail _ (.head _)))))))))) rfl) ?_)))
        ·have h3 : o.k ≠ 3 := by simpa using h3
         rcases (show o.key = 0 ∨ o.key = 1 by omega) with hk | hk
         ·have hkn : o.key.toNat = 0 := by omega
          (repeat (first | refine FW.seq ?_ | refine FW.region ?_ | refine rn_move rfl rfl rfl ?_ | refine rn_indexO rfl rfl (by first | rfl | exact (Int.toNat_of_nonneg (by omega)).symm) rfl rfl rfl (by decide) rfl (by first | omega | (simp; omega) | (simp; done)) rfl rfl ?_ | refine rn_loadP rfl rfl rfl rfl rfl (by first | omega | (simp; omega) | (simp; done)) rfl rfl rfl rfl rfl ?_ | refine rn_fieldP rfl rfl rfl rfl rfl rfl (by decide) rfl rfl ?_))
          rw [hkn]
          (repeat (first | refine RunN.nil ?_ | refine rn_lenOwn rfl rfl rfl (by decide) rfl rfl ?_ | refine rn_loadH rfl rfl rfl rfl rfl rfl rfl ?_ | refine rn_gtr rfl rfl rfl rfl ?_))
          refine FW.cond rfl (fun hne => ?_) (fun hne => ?_)
          ·obtain ⟨v, r, rfl⟩ : ∃ v r, x = v :: r := by
            cases x with
            | nil => simp at hne
            | cons v r => exact ⟨v, r, rfl⟩
           have hpos : 0 < (v :: r).length := by simp
           have hcr : (a ++ v :: r).length = a.length + (r.length + 1) := by simp
           (repeat (first | refine FW.seq ?_ | refine FW.region ?_ | refine rn_move rfl rfl rfl ?_ | refine rn_indexO rfl rfl (by first | rfl | exact (Int.toNat_of_nonneg (by omega)).symm) rfl rfl rfl (by decide) rfl (by first | omega | (simp; omega) | (simp; done)) rfl rfl ?_ | refine rn_loadP rfl rfl rfl rfl rfl (by first | omega | (simp; omega) | (simp; done)) rfl rfl rfl rfl rfl ?_ | refine rn_fieldP rfl rfl rfl rfl rfl rfl (by decide) rfl rfl ?_))
           rw [hkn]
           (repeat (first | refine rn_indexOo rfl rfl rfl rfl rfl rfl (by decide) rfl (by first | omega | (simp; done)) rfl rfl ?_ | refine rn_loadH rfl rfl rfl rfl rfl rfl rfl ?_))
           rw [Nat.add_zero]
           (repeat (first | refine rn_loadP rfl rfl rfl rfl rfl (by simp; done) (by exact getD_map (by omega)) rfl rfl rfl rfl ?_))
           rw [show nth (a ++ v :: r) a.length = v by rw [nth_eq (by simp)]; simp]
           refine rn_callO (put_specI (s.rs.set (n % 3).toNat 0) (n % 3) v (by simp; omega) (by omega) (by simp; omega)) (by repeat (first | exact ArgsR.nil | refine ArgsR.cons (by first | exact ArgR.plain rfl rfl | exact ArgR.own rfl rfl (by decide) (by first | exact (fun _ => rfl) | (intro h; cases h)) (by first | rfl | (simp; done) | (congr 1; omega) | (simp; omega) | (simp [List.take_of_length_le]; done) | (refine congrArg (FV.int .i64) ?_; omega))) ?_)) (List.length_map _) rfl rfl rfl ?_
           (repeat (first | refine RunN.nil ?_ | refine rn_assign rfl rfl rfl ?_ | refine FW.draw ?_ | refine rd_move rfl rfl rfl ?_ | refine rd_indexO rfl rfl (by first | rfl | exact (Int.toNat_of_nonneg (by omega)).symm) rfl rfl rfl (by decide) rfl (by first | omega | (simp; omega) | (simp; done)) rfl rfl ?_ | refine rd_loadP rfl rfl rfl rfl rfl (by first | omega | (simp; omega) | (simp; done)) rfl rfl rfl rfl rfl ?_ | refine rd_fieldP rfl rfl rfl rfl rfl rfl (by decide) rfl rfl ?_))
           rw [hkn]
           (repeat (first | refine RunD.nil ?_ | refine rd_indexO rfl rfl (by first | rfl | exact (Int.toNat_of_nonneg (by omega)).symm) rfl rfl rfl (by decide) rfl (by first | omega | (simp; omega) | (simp; done)) rfl rfl ?_ | refine rd_loadH rfl rfl rfl rfl rfl rfl rfl ?_ | refine rd_storeHO rfl rfl rfl rfl rfl rfl (by decide) (by first | omega | (simp; omega) | (simp; done)) rfl ?_ | refine rd_sliceO rfl rfl rfl rfl (by decide) rfl (by exact LoR.some rfl) (by exact HiR.none) (by first | omega | (simp; omega) | (simp; done)) (by first | omega | (simp; omega) | (simp; done)) rfl rfl ?_))
           refine ⟨by kernel_rfl, ?_⟩
           skip
           refine ⟨rfl, (s.ef.set (n % 3).toNat true, (s.rs.set (n % 3).toNat 0).set (n % 3).toNat v, s.now, (a ++ [v]), r, b, y), ?_, ?_⟩
           ·show hsEffM (n % 3).toNat s = _
            dsimp only
            rw [hEM]; unfold hsEff; rw [if_neg h1, if_neg h0, if_neg h3, hkn, hqs, List.set_set]; rfl
           ·dsimp only
            rw [mapB_set, hkn, List.append_assoc]
            exact (FLe.conv [⟨100, some 100, 0, ⟨0, .own, 41, 8, s.out.map OpV.fv⟩⟩, ⟨101, some 101, 0, ⟨0, .own, 3, 1, s.pr.map intf⟩⟩, ⟨102, some 102, 0, ⟨0, .own, 3, 1, s.op.map intf⟩⟩, ⟨103, some 103, 0, ⟨0, .own, 4, 1, ((s.ef.map boolf).set (n % 3).toNat [.bool true])⟩⟩, ⟨104, some 129, 1, ⟨0, .own, 3, 1, ((s.rs.set (n % 3).toNat 0).set (n % 3).toNat v).map intf⟩⟩, ⟨105, some 105, 0, ⟨0, .own, 3, 1, s.now.map intf⟩⟩, ⟨106, some 106, 0, ⟨0, .hrow, 22, 1, [[.own 107 0 (a ++ [v]).length r.length], [.own 108 0 b.length y.length]]⟩⟩, ⟨107, some 107, 0, ⟨0, .own, 3, 1, (a ++ v :: r).map intf⟩⟩, ⟨108, some 108, 0, ⟨0, .own, 3, 1, (b ++ y).map intf⟩⟩, ⟨109, some 19, 1, ⟨0, .own, 41, 8, [OpV.fv o]⟩⟩] (by simp) (by simp) rfl (by repeat (first | exact .nil | refine .low rfl ?_ | refine .same rfl ?_ | refine .bump (Nat.lt_succ_self _) ?_)) (by repeat (first | exact .nil | refine .old rfl (by decide) (by first | rfl | (simp; done)) ?_ | refine .oldH rfl (by repeat (first | exact .nil | refine .cons (.own (.tail _ (.tail _ (.tail _ (.tail _ (.tail _ (.tail _ (.tail _ (.head _)))))))) rfl (by first | rfl | (simp; done)) (by first | rfl | (simp; done))) ?_ | refine .cons (.own (.tail _ (.tail _ (.tail _ (.tail _ (.tail _ (.tail _ (.tail _ (.tail _ (.head _))))))))) rfl (by first | rfl | (simp; done)) (by first | rfl | (simp; done))) ?_)) ?_)) (by repeat (first | exact .nil | refine .cons (.plain rfl rfl (by first | rfl | (simp; done))) ?_ | refine .cons (.own rfl (.head _) rfl (by first | rfl | (simp; done))) ?_ | refine .cons (.own rfl (.tail _ (.head _)) rfl (by first | rfl | (simp; done))) ?_ | refine .cons (.own rfl (.tail _ (.tail _ (.head _))) rfl (by first | rfl | (simp; done))) ?_ | refine .cons (.own rfl (.tail _ (.tail _ (.tail _ (.head _)))) rfl (by first | rfl | (simp; done))) ?_ | refine .cons (.own rfl (.tail _ (.tail _ (.tail _ (.tail _ (.head _))))) rfl (by first | rfl | (simp; done))) ?_ | refine .cons (.own rfl (.tail _ (.tail _ (.tail _ (.tail _ (.tail _ (.head _)))))) rfl (by first | rfl | (simp; done))) ?_ | refine .cons (.own rfl (.tail _ (.tail _ (.tail _ (.tail _ (.tail _ (.tail _ (.head _))))))) rfl (by first | rfl | (simp; done))) ?_ | refine .cons (.ptr rfl (.tail _ (.tail _ (.tail _ (.tail _ (.tail _ (.tail _ (.tail _ (.tail _ (.tail _ (.head _)))))))))) rfl) ?_)))
          ·obtain rfl : x = [] := by
            cases x with
            | nil => rfl
            | cons v r => simp at hne
           (repeat (first | refine FW.skip ?_))
           refine ⟨rfl, (s.ef.set (n % 3).toNat true, s.rs.set (n % 3).toNat 0, s.now, a, ([] : List Int), b, y), ?_, ?_⟩
           ·show hsEffM (n % 3).toNat s = _
            dsimp only
            rw [hEM]; unfold hsEff; rw [if_neg h1, if_neg h0, if_neg h3, hkn, hqs]; rfl
           ·dsimp only
            rw [mapB_set]
            exact (FLe.conv [⟨100, some 100, 0, ⟨0, .own, 41, 8, s.out.map OpV.fv⟩⟩, ⟨101, some 101, 0, ⟨0, .own, 3, 1, s.pr.map intf⟩⟩, ⟨102, some 102, 0, ⟨0, .own, 3, 1, s.op.map intf⟩⟩, ⟨103, some 103, 0, ⟨0, .own, 4, 1, ((s.ef.map boolf).set (n % 3).toNat [.bool true])⟩⟩, ⟨104, some 110, 1, ⟨0, .own, 3, 1, (s.rs.set (n % 3).toNat 0).map intf⟩⟩, ⟨105, some 105, 0, ⟨0, .own, 3, 1, s.now.map intf⟩⟩, ⟨106, some 106, 0, ⟨0, .hrow, 22, 1, [[.own 107 0 a.length ([] : List Int).length], [.own 108 0 b.length y.length]]⟩⟩, ⟨107, some 107, 0, ⟨0, .own, 3, 1, (a ++ ([] : List Int)).map intf⟩⟩, ⟨108, some 108, 0, ⟨0, .own, 3, 1, (b ++ y).map intf⟩⟩, ⟨109, some 19, 1, ⟨0, .own, 41, 8, [OpV.fv o]⟩⟩] (by simp) (by simp) rfl (by repeat (first | exact .nil | refine .low rfl ?_ | refine .same rfl ?_ | refine .bump (Nat.lt_succ_self _) ?_)) (by repeat (first | exact .nil | refine .old rfl (by decide) (by first | rfl | (simp; done)) ?_ | refine .oldH rfl (by repeat (first | exact .nil | refine .cons (.own (.tail _ (.tail _ (.tail _ (.tail _ (.tail _ (.tail _ (.tail _ (.head _)))))))) rfl (by first | rfl | (simp; done)) (by first | rfl | (simp; done))) ?_ | refine .cons (.own (.tail _ (.tail _ (.tail _ (.tail _ (.tail _ (.tail _ (.tail _ (.tail _ (.head _))))))))) rfl (by first | rfl | (simp; done)) (by first | rfl | (simp; done))) ?_)) ?_)) (by repeat (first | exact .nil | refine .cons (.plain rfl rfl (by first | rfl | (simp; done))) ?_ | refine .cons (.own rfl (.head _) rfl (by first | rfl | (simp; done))) ?_ | refine .cons (.own rfl (.tail _ (.head _)) rfl (by first | rfl | (simp; done))) ?_ | refine .cons (.own rfl (.tail _ (.tail _ (.head _))) rfl (by first | rfl | (simp; done))) ?_ | refine .cons (.own rfl (.tail _ (.tail _ (.tail _ (.head _)))) rfl (by first | rfl | (simp; done))) ?_ | refine .cons (.own rfl (.tail _ (.tail _ (.tail _ (.tail _ (.head _))))) rfl (by first | rfl | (simp; done))) ?_ | refine .cons (.own rfl (.tail _ (.tail _ (.tail _ (.tail _ (.tail _ (.head _)))))) rfl (by first | rfl | (simp; done))) ?_ | refine .cons (.own rfl (.tail _ (.tail _ (.tail _ (.tail _ (.tail _ (.tail _ (.head _))))))) rfl (by first | rfl | (simp; done))) ?_ | refine .cons (.ptr rfl (.tail _ (.tail _ (.tail _ (.tail _ (.tail _ (.tail _ (.tail _ (.tail _ (.tail _ (.head _)))))))))) rfl) ?_)))
         ·have hkn : o.key.toNat = 1 := by omega
          (repeat (first | refine FW.seq ?_ | refine FW.region ?_ | refine rn_move rfl rfl rfl ?_ | refine rn_indexO rfl rfl (by first | rfl | exact (Int.toNat_of_nonneg (by omega)).symm) rfl rfl rfl (by decide) rfl (by first | omega | (simp; omega) | (simp; done)) rfl rfl ?_ | refine rn_loadP rfl rfl rfl rfl rfl (by first | omega | (simp; omega) | (simp; done)) rfl rfl rfl rfl rfl ?_ | refine rn_fieldP rfl rfl rfl rfl rfl rfl (by decide) rfl rfl ?_))
          rw [hkn]
          (repeat (first | refine RunN.nil ?_ | refine rn_lenOwn rfl rfl rfl (by decide) rfl rfl ?_ | refine rn_loadH rfl rfl rfl rfl rfl rfl rfl ?_ | refine rn_gtr rfl rfl rfl rfl ?_))
          refine FW.cond rfl (fun hne => ?_) (fun hne => ?_)
          ·obtain ⟨v, r, rfl⟩ : ∃ v r, y = v :: r := by
            cases y with
            | nil => simp at hne
            | cons v r => exact ⟨v, r, rfl⟩
           have hpos : 0 < (v :: r).length := by simp
           have hcr : (b ++ v :: r).length = b.length + (r.length + 1) := by simp
           (repeat (first | refine FW.seq ?_ | refine FW.region ?_ | refine rn_move rfl rfl rfl ?_ | refine rn_indexO rfl rfl (by first | rfl | exact (Int.toNat_of_nonneg (by omega)).symm) rfl rfl rfl (by decide) rfl (by first | omega | (simp; omega) | (simp; done)) rfl rfl ?_ | refine rn_loadP rfl rfl rfl rfl rfl (by first | omega | (simp; omega) | (simp; done)) rfl rfl rfl rfl rfl ?_ | refine rn_fieldP rfl rfl rfl rfl rfl rfl (by decide) rfl rfl ?_))
           rw [hkn]
           (repeat (first | refine rn_indexOo rfl rfl rfl rfl rfl rfl (by decide) rfl (by first | omega | (simp; done)) rfl rfl ?_ | refine rn_loadH rfl rfl rfl rfl rfl rfl rfl ?_))
           rw [Nat.add_zero]
           (repeat (first | refine rn_loadP rfl rfl rfl rfl rfl (by simp; done) (by exact getD_map (by omega)) rfl rfl rfl rfl ?_))
           rw [show nth (b ++ v :: r) b.length = v by rw [nth_eq (by simp)]; simp]
           refine rn_callO (put_specI (s.rs.set (n % 3).toNat 0) (n % 3) v (by simp; omega) (by omega) (by simp; omega)) (by repeat (first | exact ArgsR.nil | refine ArgsR.cons (by first | exact ArgR.plain rfl rfl | exact ArgR.own rfl rfl (by decide) (by first | exact (fun _ => rfl) | (intro h; cases h)) (by first | rfl | (simp; done) | (congr 1; omega) | (simp; omega) | (simp [List.take_of_length_le]; done) | (refine congrArg (FV.int .i64) ?_; omega))) ?_)) (List.length_map _) rfl rfl rfl ?_
           (repeat (first | refine RunN.nil ?_ | refine rn_assign rfl rfl rfl ?_ | refine FW.draw ?_ | refine rd_move rfl rfl rfl ?_ | refine rd_indexO rfl rfl (by first | rfl | exact (Int.toNat_of_nonneg (by omega)).symm) rfl rfl rfl (by decide) rfl (by first | omega | (simp; omega) | (simp; done)) rfl rfl ?_ | refine rd_loadP rfl rfl rfl rfl rfl (by first | omega | (simp; omega) | (simp; done)) rfl rfl rfl rfl rfl ?_ | refine rd_fieldP rfl rfl rfl rfl rfl rfl (by decide) rfl rfl ?_))
           rw [hkn]
           (repeat (first | refine RunD.nil ?_ | refine rd_indexO rfl rfl (by first | rfl | exact (Int.toNat_of_nonneg (by omega)).symm) rfl rfl rfl (by decide) rfl (by first | omega | (simp; omega) | (simp; done)) rfl rfl ?_ | refine rd_loadH rfl rfl rfl rfl rfl rfl rfl ?_ | refine rd_storeHO rfl rfl rfl rfl rfl rfl (by decide) (by first | omega | (simp; omega) | (simp; done)) rfl ?_ | refine rd_sliceO rfl rfl rfl rfl (by decide) rfl (by exact LoR.some rfl) (by exact HiR.none) (by first | omega | (simp; omega) | (simp; done)) (by first | omega | (simp; omega) | (simp; done)) rfl rfl ?_))
           refine ⟨by kernel_rfl, ?_⟩
           skip
           refine ⟨rfl, (s.ef.set (n % 3).toNat true, (s.rs.set (n % 3).toNat 0).set (n % 3).toNat v, s.now, a, x, (b ++ [v]), r), ?_, ?_⟩
           ·show hsEffM (n % 3).toNat s = _
            dsimp only
            rw [hEM]; unfold hsEff; rw [if_neg h1, if_neg h0, if_neg h3, hkn, hqs, List.set_set]; rfl
           ·dsimp only
            rw [mapB_set, hkn, List.append_assoc]
            exact (FLe.conv [⟨100, some 100, 0, ⟨0, .own, 41, 8, s.out.map OpV.fv⟩⟩, ⟨101, some 101, 0, ⟨0, .own, 3, 1, s.pr.map intf⟩⟩, ⟨102, some 102, 0, ⟨0, .own, 3, 1, s.op.map intf⟩⟩, ⟨103, some 103, 0, ⟨0, .own, 4, 1, ((s.ef.map boolf).set (n % 3).toNat [.bool true])⟩⟩, ⟨104, some 129, 1, ⟨0, .own, 3, 1, ((s.rs.set (n % 3).toNat 0).set (n % 3).toNat v).map intf⟩⟩, ⟨105, some 105, 0, ⟨0, .own, 3, 1, s.now.map intf⟩⟩, ⟨106, some 106, 0, ⟨0, .hrow, 22, 1, [[.own 107 0 a.length x.length], [.own 108 0 (b ++ [v]).length r.length]]⟩⟩, ⟨107, some 107, 0, ⟨0, .own, 3, 1, (a ++ x).map intf⟩⟩, ⟨108, some 108, 0, ⟨0, .own, 3, 1, (b ++ v :: r).map intf⟩⟩, ⟨109, some 19, 1, ⟨0, .own, 41, 8, [OpV.fv o]⟩⟩] (by simp) (by simp) rfl (by repeat (first | exact .nil | refine .low rfl ?_ | refine .same rfl ?_ | refine .bump (Nat.lt_succ_self _) ?_)) (by repeat (first | exact .nil | refine .old rfl (by decide) (by first | rfl | (simp; done)) ?_ | refine .oldH rfl (by repeat (first | exact .nil | refine .cons (.own (.tail _ (.tail _ (.tail _ (.tail _ (.tail _ (.tail _ (.tail _ (.head _)))))))) rfl (by first | rfl | (simp; done)) (by first | rfl | (simp; done))) ?_ | refine .cons (.own (.tail _ (.tail _ (.tail _ (.tail _ (.tail _ (.tail _ (.tail _ (.tail _ (.head _))))))))) rfl (by first | rfl | (simp; done)) (by first | rfl | (simp; done))) ?_)) ?_)) (by repeat (first | exact .nil | refine .cons (.plain rfl rfl (by first | rfl | (simp; done))) ?_ | refine .cons (.own rfl (.head _) rfl (by first | rfl | (simp; done))) ?_ | refine .cons (.own rfl (.tail _ (.head _)) rfl (by first | rfl | (simp; done))) ?_ | refine .cons (.own rfl (.tail _ (.tail _ (.head _))) rfl (by first | rfl | (simp; done))) ?_ | refine .cons (.own rfl (.tail _ (.tail _ (.tail _ (.head _)))) rfl (by first | rfl | (simp; done))) ?_ | refine .cons (.own rfl (.tail _ (.tail _ (.tail _ (.tail _ (.head _))))) rfl (by first | rfl | (simp; done))) ?_ | refine .cons (.own rfl (.tail _ (.tail _ (.tail _ (.tail _ (.tail _ (.head _)))))) rfl (by first | rfl | (simp; done))) ?_ | refine .cons (.own rfl (.tail _ (.tail _ (.tail _ (.tail _ (.tail _ (.tail _ (.head _))))))) rfl (by first | rfl | (simp; done))) ?_ | refine .cons (.ptr rfl (.tail _ (.tail _ (.tail _ (.tail _ (.tail _ (.tail _ (.tail _ (.tail _ (.tail _ (.head _)))))))))) rfl) ?_)))
          ·obtain rfl : y = [] := by
            cases y with
            | nil => rfl
            | cons v r => simp at hne
           (repeat (first | refine FW.skip ?_))
           refine ⟨rfl, (s.ef.set (n % 3).toNat true, s.rs.set (n % 3).toNat 0, s.now, a, x, b, ([] : List Int)), ?_, ?_⟩
           ·show hsEffM (n % 3).toNat s = _
            dsimp only
            rw [hEM]; unfold hsEff; rw [if_neg h1, if_neg h0, if_neg h3, hkn, hqs]; rfl
           ·dsimp only
            rw [mapB_set]
            exact (FLe.conv [⟨100, some 100, 0, ⟨0, .own, 41, 8, s.out.map OpV.fv⟩⟩, ⟨101, some 101, 0, ⟨0, .own, 3, 1, s.pr.map intf⟩⟩, ⟨102, some 102, 0, ⟨0, .own, 3, 1, s.op.map intf⟩⟩, ⟨103, some 103, 0, ⟨0, .own, 4, 1, ((s.ef.map boolf).set (n % 3).toNat [.bool true])⟩⟩, ⟨104, some 110, 1, ⟨0, .own, 3, 1, (s.rs.set (n % 3).toNat 0).map intf⟩⟩, ⟨105, some 105, 0, ⟨0, .own, 3, 1, s.now.map intf⟩⟩, ⟨106, some 106, 0, ⟨0, .hrow, 22, 1, [[.own 107 0 a.length x.length], [.own 108 0 b.length ([] : List Int).length]]⟩⟩, ⟨107, some 107, 0, ⟨0, .own, 3, 1, (a ++ x).map intf⟩⟩, ⟨108, some 108, 0, ⟨0, .own, 3, 1, (b ++ ([] : List Int)).map intf⟩⟩, ⟨109, some 19, 1, ⟨0, .own, 41, 8, [OpV.fv o]⟩⟩] (by simp) (by simp) rfl (by repeat (first | exact .nil | refine .low rfl ?_ | refine .same rfl ?_ | refine .bump (Nat.lt_succ_self _) ?_)) (by repeat (first | exact .nil | refine .old rfl (by decide) (by first | rfl | (simp; done)) ?_ | refine .oldH rfl (by repeat (first | exact .nil | refine .cons (.own (.tail _ (.tail _ (.tail _ (.tail _ (.tail _ (.tail _ (.tail _ (.head _)))))))) rfl (by first | rfl | (simp; done)) (by first | rfl | (simp; done))) ?_ | refine .cons (.own (.tail _ (.tail _ (.tail _ (.tail _ (.tail _ (.tail _ (.tail _ (.tail _ (.head _))))))))) rfl (by first | rfl | (simp; done)) (by first | rfl | (simp; done))) ?_)) ?_)) (by repeat (first | exact .nil | refine .cons (.plain rfl rfl (by first | rfl | (simp; done))) ?_ | refine .cons (.own rfl (.head _) rfl (by first | rfl | (simp; done))) ?_ | refine .cons (.own rfl (.tail _ (.head _)) rfl (by first | rfl | (simp; done))) ?_ | refine .cons (.own rfl (.tail _ (.tail _ (.head _))) rfl (by first | rfl | (simp; done))) ?_ | refine .cons (.own rfl (.tail _ (.tail _ (.tail _ (.head _)))) rfl (by first | rfl | (simp; done))) ?_ | refine .cons (.own rfl (.tail _ (.tail _ (.tail _ (.tail _ (.head _))))) rfl (by first | rfl | (simp; done))) ?_ | refine .cons (.own rfl (.tail _ (.tail _ (.tail _ (.tail _ (.tail _ (.head _)))))) rfl (by first | rfl | (simp; done))) ?_ | refine .cons (.own rfl (.tail _ (.tail _ (.tail _ (.tail _ (.tail _ (.tail _ (.head _))))))) rfl (by first | rfl | (simp; done))) ?_ | refine .cons (.ptr rfl (.tail _ (.tail _ (.tail _ (.tail _ (.tail _ (.tail _ (.tail _ (.tail _ (.tail _ (.head _)))))))))) rfl) ?_)))
     ·have hef : nth s.ef (n % 3).toNat = true := by simpa using hef
      (repeat (first | refine FW.skip ?_))
      refine ⟨rfl, (s.ef, s.rs, s.now, a, x, b, y), ?_, ?_⟩
      ·show hsEffM (n % 3).toNat s = _
       dsimp only
       unfold hsEffM; rw [if_pos hef, ← hqs]
      ·dsimp only
       exact (FLe.conv [⟨100, some 100, 0, ⟨0, .own, 41, 8, s.out.map OpV.fv⟩⟩, ⟨101, some 101, 0, ⟨0, .own, 3, 1, s.pr.map intf⟩⟩, ⟨102, some 102, 0, ⟨0, .own, 3, 1, s.op.map intf⟩⟩, ⟨103, some 103, 0, ⟨0, .own, 4, 1, s.ef.map boolf⟩⟩, ⟨104, some 104, 0, ⟨0, .own, 3, 1, s.rs.map intf⟩⟩, ⟨105, some 105, 0, ⟨0, .own, 3, 1, s.now.map intf⟩⟩, ⟨106, some 106, 0, ⟨0, .hrow, 22, 1, [[.own 107 0 a.length x.length], [.own 108 0 b.length y.length]]⟩⟩, ⟨107, some 107, 0, ⟨0, .own, 3, 1, (a ++ x).map intf⟩⟩, ⟨108, some 108, 0, ⟨0, .own, 3, 1, (b ++ y).map intf⟩⟩, ⟨109, some 19, 1, ⟨0, .own, 41, 8, [OpV.fv o]⟩⟩] (by simp) (by simp) rfl (by repeat (first | exact .nil | refine .low rfl ?_ | refine .same rfl ?_ | refine .bump (Nat.lt_succ_self _) ?_)) (by repeat (first | exact .nil | refine .old rfl (by decide) rfl ?_ | refine .oldH rfl (by repeat (first | exact .nil | refine .cons (.own (.tail _ (.tail _ (.tail _ (.tail _ (.tail _ (.tail _ (.tail _ (.head _)))))))) rfl rfl rfl) ?_ | refine .cons (.own (.tail _ (.tail _ (.tail _ (.tail _ (.tail _ (.tail _ (.tail _ (.tail _ (.head _))))))))) rfl rfl rfl) ?_)) ?_)) (by repeat (first | exact .nil | refine .cons (.plain rfl rfl rfl) ?_ | refine .cons (.own rfl (.head _) rfl rfl) ?_ | refine .cons (.own rfl (.tail _ (.head _)) rfl rfl) ?_ | refine .cons (.own rfl (.tail _ (.tail _ (.head _))) rfl rfl) ?_ | refine .cons (.own rfl (.tail _ (.tail _ (.tail _ (.head _)))) rfl rfl) ?_ | refine .cons (.own rfl (.tail _ (.tail _ (.tail _ (.tail _ (.head _))))) rfl rfl) ?_ | refine .cons (.own rfl (.tail _ (.tail _ (.tail _ (.tail _ (.tail _ (.head _)))))) rfl rfl) ?_ | refine .cons (.own rfl (.tail _ (.tail _ (.tail _ (.tail _ (.tail _ (.tail _ (.head _))))))) rfl rfl) ?_ | refine .cons (.ptr rfl (.tail _ (.tail _ (.tail _ (.tail _ (.tail _ (.tail _ (.tail _ (.tail _ (.tail _ (.head _)))))))))) rfl) ?_)))
    ·rintro ⟨ef', rs', now', a', x', b', y'⟩ hE
     dsimp only at hE ⊢
     have h1 := hI.effM (n % 3).toNat
     rw [hE] at h1
     have hr3' : rs'.length = 3 := h1.r3
     have he3' : ef'.length = 3 := h1.e3
     have hprb := hI.pr _ (show (n % 3).toNat < 3 by omega)
     clear h1
     (repeat (first | refine FW.seq ?_ | refine FW.region ?_ | refine RunN.nil ?_ | refine rn_move rfl rfl rfl ?_ | refine rn_rem rfl rfl (by omega) rfl rfl ?_ | refine rn_eql rfl rfl rfl rfl ?_))
     refine FW.cond rfl (fun h7 => ?_) (fun h7 => ?_)
     ·have h7 : n / 3 % 8 = 7 := by simpa using h7
      (repeat (first | refine FW.seq ?_ | refine FW.region ?_ | refine rn_move rfl rfl rfl ?_ | refine rn_indexO rfl rfl (by exact (Int.toNat_of_nonneg (by omega)).symm) rfl rfl rfl (by decide) rfl (by first | omega | (simp; omega)) rfl rfl ?_ | refine rn_loadP rfl rfl rfl rfl rfl (by first | omega | (simp; omega)) (by exact getD_map (by omega)) rfl rfl rfl rfl ?_ | refine rn_add rfl rfl (by omega) rfl rfl ?_))
      refine rn_callO (put_specI s.pr (n % 3) (nth s.pr (n % 3).toNat + 3) (by omega) (by omega) (by omega)) (by repeat (first | exact ArgsR.nil | refine ArgsR.cons (by first | exact ArgR.plain rfl rfl | exact ArgR.own rfl rfl (by decide) (by first | exact (fun _ => rfl) | (intro h; cases h)) (by first | rfl | (simp; done) | (congr 1; omega) | (simp; omega) | (simp [List.take_of_length_le]; done) | (refine congrArg (FV.int .i64) ?_; omega))) ?_)) (List.length_map _) rfl rfl rfl ?_
      (repeat (first | refine FW.seq ?_ | refine FW.region ?_ | refine RunN.nil ?_ | refine rn_assign rfl rfl rfl ?_ | refine rn_move rfl rfl rfl ?_))
      refine rn_callO (put_specI s.op (n % 3) (-1) (by omega) (by omega) (by omega)) (by repeat (first | exact ArgsR.nil | refine ArgsR.cons (by first | exact ArgR.plain rfl rfl | exact ArgR.own rfl rfl (by decide) (by first | exact (fun _ => rfl) | (intro h; cases h)) (by first | rfl | (simp; done) | (congr 1; omega) | (simp; omega) | (simp [List.take_of_length_le]; done) | (refine congrArg (FV.int .i64) ?_; omega))) ?_)) (List.length_map _) rfl rfl rfl ?_
      (repeat (first | refine FW.region ?_ | refine FW.exit ?_ | refine RunN.nil ?_ | refine rn_assign rfl rfl rfl ?_ | refine rn_move rfl rfl rfl ?_ | refine rn_add rfl rfl (by omega) rfl rfl ?_))
      have H : hsStep q (nth l i) s = ⟨s.out, s.pr.set (n % 3).toNat (nth s.pr (n % 3).toNat + 3), s.op.set (n % 3).toNat (-1), ef', rs', now', [x', y'], s.time, s.fresh⟩ := by
       unfold hsStep
       rw [hn, if_neg (by omega), hE]
       unfold hsEnd
       rw [if_pos h7]; rfl
      refine ⟨(i + 1, a', x', b', y'), ⟨by show i + 1 ≤ _; omega, by dsimp only; rw [hnext _ H]⟩, by show min l.length 60 - (i + 1) < min l.length 60 - i; omega, ?_⟩
      dsimp only
      rw [hnext _ H]
      dsimp only
      exact (FLe.conv [⟨100, some 100, 0, ⟨0, .own, 41, 8, s.out.map OpV.fv⟩⟩, ⟨101, some 183, 1, ⟨0, .own, 3, 1, (s.pr.set (n % 3).toNat (nth s.pr (n % 3).toNat + 3)).map intf⟩⟩, ⟨102, some 186, 1, ⟨0, .own, 3, 1, (s.op.set (n % 3).toNat (-1)).map intf⟩⟩, ⟨103, some 103, 0, ⟨0, .own, 4, 1, ef'.map boolf⟩⟩, ⟨104, some 104, 0, ⟨0, .own, 3, 1, rs'.map intf⟩⟩, ⟨105, some 105, 0, ⟨0, .own, 3, 1, now'.map intf⟩⟩, ⟨106, some 106, 0, ⟨0, .hrow, 22, 1, [[.own 107 0 a'.length x'.length], [.own 108 0 b'.length y'.length]]⟩⟩, ⟨107, some 107, 0, ⟨0, .own, 3, 1, (a' ++ x').map intf⟩⟩, ⟨108, some 108, 0, ⟨0, .own, 3, 1, (b' ++ y').map intf⟩⟩] (by simp) (by simp) rfl (by repeat (first | exact .nil | refine .low rfl ?_ | refine .same rfl ?_ | refine .bump (Nat.lt_succ_self _) ?_)) (by repeat (first | exact .nil | refine .old rfl (by decide) rfl ?_ | refine .oldH rfl (by repeat (first | exact .nil | refine .cons (.own (.tail _ (.tail _ (.tail _ (.tail _ (.tail _ (.tail _ (.tail _ (.head _)))))))) rfl rfl rfl) ?_ | refine .cons (.own (.tail _ (.tail _ (.tail _ (.tail _ (.tail _ (.tail _ (.tail _ (.tail _ (.head _))))))))) rfl rfl rfl) ?_)) ?_)) (by repeat (first | exact .nil | refine .cons (.plain rfl rfl rfl) ?_ | refine .cons (.own rfl (.head _) rfl rfl) ?_ | refine .cons (.own rfl (.tail _ (.head _)) rfl rfl) ?_ | refine .cons (.own rfl (.tail _ (.tail _ (.head _))) rfl rfl) ?_ | refine .cons (.own rfl (.tail _ (.tail _ (.tail _ (.head _)))) rfl rfl) ?_ | refine .cons (.own rfl (.tail _ (.tail _ (.tail _ (.tail _ (.head _))))) rfl rfl) ?_ | refine .cons (.own rfl (.tail _ (.tail _ (.tail _ (.tail _ (.tail _ (.head _)))))) rfl rfl) ?_ | refine .cons (.own rfl (.tail _ (.tail _ (.tail _ (.tail _ (.tail _ (.tail _ (.head _))))))) rfl rfl) ?_)))
     ·have h7 : n / 3 % 8 ≠ 7 := by simpa using h7
      (repeat (first | refine FW.seq ?_ | refine FW.region ?_ | refine FW.skip ?_ | refine RunN.nil ?_ | refine rn_move rfl rfl rfl ?_ | refine rn_rem rfl rfl (by omega) rfl rfl ?_ | refine rn_gtr rfl rfl rfl rfl ?_))
      refine FW.cond rfl (fun h8 => ?_) (fun h8 => ?_)
      ·have h8 : 0 < n / 3 % 3 := by simpa using h8
       (repeat (first | refine FW.seq ?_ | refine FW.region ?_ | refine RunN.nil ?_ | refine rn_assign rfl rfl rfl ?_ | refine rn_move rfl rfl rfl ?_ | refine rn_indexO rfl rfl (by first | rfl | exact (Int.toNat_of_nonneg (by omega)).symm) rfl rfl rfl (by decide) rfl (by first | omega | (simp; omega) | (simp; done)) rfl rfl ?_ | refine rn_loadP rfl rfl rfl rfl rfl (by first | omega | (simp; omega) | (simp; done)) (by first | exact getD_map (by omega) | rfl) rfl rfl rfl rfl ?_ | refine rn_storeV rfl rfl rfl rfl rfl rfl rfl rfl rfl ?_ | refine rn_add rfl rfl (by omega) rfl rfl ?_ | refine rn_fieldP rfl rfl rfl rfl rfl rfl (by decide) rfl rfl ?_ | refine FW.draw ?_ | refine RunD.nil ?_ | refine rd_move rfl rfl rfl ?_ | refine rd_indexO rfl rfl (by first | rfl | exact (Int.toNat_of_nonneg (by omega)).symm) rfl rfl rfl (by decide) rfl (by first | omega | (simp; omega) | (simp; done)) rfl rfl ?_ | refine rd_loadP rfl rfl rfl rfl rfl (by first | omega | (simp; omega) | (simp; done)) (by first | exact getD_map (by omega) | rfl) rfl rfl rfl rfl ?_ | refine rd_loadPA rfl rfl rfl (by decide) rfl rfl (by first | omega | (simp; omega) | (simp; done)) (by first | exact getD_map (by omega) | rfl) rfl rfl rfl ?_ | refine rd_storeRA rfl rfl rfl rfl rfl rfl (by first | omega | (simp; omega) | (simp; done)) (by first | exact getD_map (by omega) | rfl) rfl rfl rfl ?_))
       refine ⟨by kernel_rfl, ?_⟩
       (repeat (first | refine FW.region ?_ | refine rn_move rfl rfl rfl ?_))
       refine rn_callO (put_specI s.op (n % 3) (-1) (by omega) (by omega) (by omega)) (by repeat (first | exact ArgsR.nil | refine ArgsR.cons (by first | exact ArgR.plain rfl rfl | exact ArgR.own rfl rfl (by decide) (by first | exact (fun _ => rfl) | (intro h; cases h)) (by first | rfl | (simp; done) | (congr 1; omega) | (simp; omega) | (simp [List.take_of_length_le]; done) | (refine congrArg (FV.int .i64) ?_; omega))) ?_)) (List.length_map _) rfl rfl rfl ?_
       (repeat (first | refine FW.region ?_ | refine RunN.nil ?_ | refine rn_assign rfl rfl rfl ?_ | refine rn_move rfl rfl rfl ?_ | refine rn_add rfl rfl (by omega) rfl rfl ?_))
       have H : hsStep q (nth l i) s = ⟨s.out.set (nth s.op (n % 3).toNat).toNat { o with done := true, res := nth rs' (n % 3).toNat, ret := (s.time : Int) }, s.pr, s.op.set (n % 3).toNat (-1), ef', rs', now', [x', y'], s.time + 1, s.fresh⟩ := by
        unfold hsStep
        rw [hn, if_neg (by omega), hE]
        unfold hsEnd
        rw [if_neg h7, if_pos h8]; unfold hsDone; dsimp only; rw [ho]
       refine ⟨(i + 1, a', x', b', y'), ⟨by show i + 1 ≤ _; omega, by dsimp only; rw [hnext _ H]⟩, by show min l.length 60 - (i + 1) < min l.length 60 - i; omega, ?_⟩
       dsimp only
       rw [hnext _ H]
       dsimp only
       rw [mapO_set]
       exact (FLe.conv [⟨100, some 100, 0, ⟨0, .own, 41, 8, ((s.out.map OpV.fv).set (nth s.op (n % 3).toNat).toNat (OpV.fv { o with done := true, res := nth rs' (n % 3).toNat, ret := (s.time : Int) }))⟩⟩, ⟨101, some 101, 0, ⟨0, .own, 3, 1, s.pr.map intf⟩⟩, ⟨102, some 209, 1, ⟨0, .own, 3, 1, (s.op.set (n % 3).toNat (-1)).map intf⟩⟩, ⟨103, some 103, 0, ⟨0, .own, 4, 1, ef'.map boolf⟩⟩, ⟨104, some 104, 0, ⟨0, .own, 3, 1, rs'.map intf⟩⟩, ⟨105, some 105, 0, ⟨0, .own, 3, 1, now'.map intf⟩⟩, ⟨106, some 106, 0, ⟨0, .hrow, 22, 1, [[.own 107 0 a'.length x'.length], [.own 108 0 b'.length y'.length]]⟩⟩, ⟨107, some 107, 0, ⟨0, .own, 3, 1, (a' ++ x').map intf⟩⟩, ⟨108, some 108, 0, ⟨0, .own, 3, 1, (b' ++ y').map intf⟩⟩] (by simp) (by simp) rfl (by repeat (first | exact .nil | refine .low rfl ?_ | refine .same rfl ?_ | refine .bump (Nat.lt_succ_self _) ?_)) (by repeat (first | exact .nil | refine .old rfl (by decide) (by first | rfl | (simp; done)) ?_ | refine .oldH rfl (by repeat (first | exact .nil | refine .cons (.own (.tail _ (.tail _ (.tail _ (.tail _ (.tail _ (.tail _ (.tail _ (.head _)))))))) rfl (by first | rfl | (simp; done)) (by first | rfl | (simp; done))) ?_ | refine .cons (.own (.tail _ (.tail _ (.tail _ (.tail _ (.tail _ (.tail _ (.tail _ (.tail _ (.head _))))))))) rfl (by first | rfl | (simp; done)) (by first | rfl | (simp; done))) ?_)) ?_)) (by repeat (first | exact .nil | refine .cons (.plain rfl rfl (by first | rfl | (simp; done))) ?_ | refine .cons (.own rfl (.head _) rfl (by first | rfl | (simp; done))) ?_ | refine .cons (.own rfl (.tail _ (.head _)) rfl (by first | rfl | (simp; done))) ?_ | refine .cons (.own rfl (.tail _ (.tail _ (.head _))) rfl (by first | rfl | (simp; done))) ?_ | refine .cons (.own rfl (.tail _ (.tail _ (.tail _ (.head _)))) rfl (by first | rfl | (simp; done))) ?_ | refine .cons (.own rfl (.tail _ (.tail _ (.tail _ (.tail _ (.head _))))) rfl (by first | rfl | (simp; done))) ?_ | refine .cons (.own rfl (.tail _ (.tail _ (.tail _ (.tail _ (.tail _ (.head _)))))) rfl (by first | rfl | (simp; done))) ?_ | refine .cons (.own rfl (.tail _ (.tail _ (.tail _ (.tail _ (.tail _ (.tail _ (.head _))))))) rfl (by first | rfl | (simp; done))) ?_)))
      ·have h8 : ¬ 0 < n / 3 % 3 := by simp at h8; omega
       (repeat (first | refine FW.region ?_ | refine FW.skip ?_ | refine RunN.nil ?_ | refine rn_assign rfl rfl rfl ?_ | refine rn_move rfl rfl rfl ?_ | refine rn_add rfl rfl (by omega) rfl rfl ?_))
       have H : hsStep q (nth l i) s = ⟨s.out, s.pr, s.op, ef', rs', now', [x', y'], s.time, s.fresh⟩ := by
        unfold hsStep
        rw [hn, if_neg (by omega), hE]
        unfold hsEnd
        rw [if_neg h7, if_neg h8]
       refine ⟨(i + 1, a', x', b', y'), ⟨by show i + 1 ≤ _; omega, by dsimp only; rw [hnext _ H]⟩, by show min l.length 60 - (i + 1) < min l.length 60 - i; omega, ?_⟩
       dsimp only
       rw [hnext _ H]
       dsimp only
       exact (FLe.conv [⟨100, some 100, 0, ⟨0, .own, 41, 8, s.out.map OpV.fv⟩⟩, ⟨101, some 101, 0, ⟨0, .own, 3, 1, s.pr.map intf⟩⟩, ⟨102, some 102, 0, ⟨0, .own, 3, 1, s.op.map intf⟩⟩, ⟨103, some 103, 0, ⟨0, .own, 4, 1, ef'.map boolf⟩⟩, ⟨104, some 104, 0, ⟨0, .own, 3, 1, rs'.map intf⟩⟩, ⟨105, some 105, 0, ⟨0, .own, 3, 1, now'.map intf⟩⟩, ⟨106, some 106, 0, ⟨0, .hrow, 22, 1, [[.own 107 0 a'.length x'.length], [.own 108 0 b'.length y'.length]]⟩⟩, ⟨107, some 107, 0, ⟨0, .own, 3, 1, (a' ++ x').map intf⟩⟩, ⟨108, some 108, 0, ⟨0, .own, 3, 1, (b' ++ y').map intf⟩⟩] (by simp) (by simp) rfl (by repeat (first | exact .nil | refine .low rfl ?_ | refine .same rfl ?_ | refine .bump (Nat.lt_succ_self _) ?_)) (by repeat (first | exact .nil | refine .old rfl (by decide) rfl ?_ | refine .oldH rfl (by repeat (first | exact .nil | refine .cons (.own (.tail _ (.tail _ (.tail _ (.tail _ (.tail _ (.tail _ (.tail _ (.head _)))))))) rfl rfl rfl) ?_ | refine .cons (.own (.tail _ (.tail _ (.tail _ (.tail _ (.tail _ (.tail _ (.tail _ (.tail _ (.head _))))))))) rfl rfl rfl) ?_)) ?_)) (by repeat (first | exact .nil | refine .cons (.plain rfl rfl rfl) ?_ | refine .cons (.own rfl (.head _) rfl rfl) ?_ | refine .cons (.own rfl (.tail _ (.head _)) rfl rfl) ?_ | refine .cons (.own rfl (.tail _ (.tail _ (.head _))) rfl rfl) ?_ | refine .cons (.own rfl (.tail _ (.tail _ (.tail _ (.head _)))) rfl rfl) ?_ | refine .cons (.own rfl (.tail _ (.tail _ (.tail _ (.tail _ (.head _))))) rfl rfl) ?_ | refine .cons (.own rfl (.tail _ (.tail _ (.tail _ (.tail _ (.tail _ (.head _)))))) rfl rfl) ?_ | refine .cons (.own rfl (.tail _ (.tail _ (.tail _ (.tail _ (.tail _ (.tail _ (.head _))))))) rfl rfl) ?_)))
  ·have h60 : ¬ i < 60 := by simp at h2; omega
   (repeat (first | refine FW.seq ?_ | refine FW.region ?_ | refine FW.block ?_ | refine FW.exit ?_ | refine RunN.nil ?_ | refine rn_assign rfl rfl rfl ?_))
   refine FW.loop (fun k : Nat => ⟨[(5, .own 100 0 0 s.out.length), (12, .int .i64 s.time), (20, .int .i64 k)], [(100, ⟨0, .own, 41, 8, (fixTo s.time s.out k).map OpV.fv⟩)]⟩) (fun k => k ≤ s.out.length) (fun k => s.out.length - k) 0 (Nat.zero_le _)
    (by rw [fixTo_zero]; exact (FLe.conv [⟨100, some 100, 0, ⟨0, .own, 41, 8, s.out.map OpV.fv⟩⟩] (by simp) (by simp) rfl (by repeat (first | exact .nil | refine .low rfl ?_ | refine .same rfl ?_ | refine .bump (Nat.lt_succ_self _) ?_)) (by repeat (first | exact .nil | refine .old rfl (by decide) rfl ?_)) (by repeat (first | exact .nil | refine .cons (.plain rfl rfl rfl) ?_ | refine .cons (.own rfl (.head _) rfl rfl) ?_)))) ?_
   intro k hk
   have hfl := fixTo_len s.time s.out k
   (repeat (first | refine FW.seq ?_ | refine FW.region ?_ | refine RunN.nil ?_ | refine rn_move rfl rfl rfl ?_ | refine rn_lenOwn rfl rfl rfl (by decide) rfl rfl ?_ | refine rn_lss rfl rfl rfl rfl ?_))
   refine FW.cond rfl (fun h => ?_) (fun h => ?_)
   ·have hkl : k < s.out.length := by simpa using h
    have hat := fixTo_at s.time hkl
    (repeat (first | refine FW.seq ?_ | refine FW.region ?_ | refine FW.block ?_ | refine FW.skip ?_ | refine RunN.nil ?_ | refine rn_move rfl rfl rfl ?_ | refine rn_indexO rfl rfl rfl rfl rfl rfl (by decide) rfl (by first | omega | (simp; omega)) rfl rfl ?_ | refine rn_loadP rfl rfl rfl rfl rfl (by first | omega | (simp; omega)) (by first | exact getD_map (by omega) | rfl) rfl rfl rfl rfl ?_ | refine rn_fieldP rfl rfl rfl rfl rfl rfl (by decide) rfl rfl ?_ | refine rn_not rfl rfl rfl ?_))
    rw [hat]
    refine FW.cond rfl (fun hd => ?_) (fun hd => ?_)
    ·have hd : (nth s.out k).done = false := by simpa using hd
     (repeat (first | refine FW.region ?_ | refine RunN.nil ?_ | refine rn_assign rfl rfl rfl ?_ | refine rn_move rfl rfl rfl ?_ | refine rn_indexO rfl rfl rfl rfl rfl rfl (by decide) rfl (by first | omega | (simp; omega)) rfl rfl ?_ | refine rn_storeR rfl rfl rfl rfl rfl rfl (by first | omega | (simp; omega)) (by first | exact getD_map (by omega) | rfl) rfl rfl rfl ?_ | refine rn_add rfl rfl (by omega) rfl rfl ?_ | refine rn_fieldP rfl rfl rfl rfl rfl rfl (by decide) rfl rfl ?_))
     refine ⟨k + 1, by omega, by omega, ?_⟩
     rw [fixTo_succ s.time hkl, mapO_set, show OpV.fv (hsFix s.time (nth s.out k)) = (OpV.fv (nth (fixTo s.time s.out k) k)).set 6 (.int .i64 s.time) by rw [hat]; unfold hsFix; rw [if_neg (by rw [hd]; decide)]; rfl]
     exact (FLe.conv [⟨100, some 100, 0, ⟨0, .own, 41, 8, ((fixTo s.time s.out k).map OpV.fv).set k ((OpV.fv (nth (fixTo s.time s.out k) k)).set 6 (.int .i64 s.time))⟩⟩] (by simp) (by simp) rfl (by repeat (first | exact .nil | refine .low rfl ?_ | refine .same rfl ?_ | refine .bump (Nat.lt_succ_self _) ?_)) (by repeat (first | exact .nil | refine .old rfl (by decide) rfl ?_)) (by repeat (first | exact .nil | refine .cons (.plain rfl rfl rfl) ?_ | refine .cons (.own rfl (.head _) rfl rfl) ?_)))
    ·have hd : (nth s.out k).done = true := by simpa using hd
     (repeat (first | refine FW.region ?_ | refine FW.skip ?_ | refine RunN.nil ?_ | refine rn_assign rfl rfl rfl ?_ | refine rn_move rfl rfl rfl ?_ | refine rn_add rfl rfl (by omega) rfl rfl ?_))
     refine ⟨k + 1, by omega, by omega, ?_⟩
     rw [fixTo_same s.time hkl hd]
     exact (FLe.conv [⟨100, some 100, 0, ⟨0, .own, 41, 8, (fixTo s.time s.out k).map OpV.fv⟩⟩] (by simp) (by simp) rfl (by repeat (first | exact .nil | refine .low rfl ?_ | refine .same rfl ?_ | refine .bump (Nat.lt_succ_self _) ?_)) (by repeat (first | exact .nil | refine .old rfl (by decide) rfl ?_)) (by repeat (first | exact .nil | refine .cons (.plain rfl rfl rfl) ?_ | refine .cons (.own rfl (.head _) rfl rfl) ?_)))
   ·have : k = s.out.length := by simp at h; omega
    subst this
    (repeat (first | refine FW.seq ?_ | refine FW.region ?_ | refine FW.exit ?_ | refine RunN.nil ?_ | refine rn_assign rfl rfl rfl ?_ | refine rn_move rfl rfl rfl ?_))
    exact FW.ret ⟨.inl rfl, ret_ow rfl rfl rfl (by simp; omega) (by decide) (by rw [hhist (by omega), fixTo_all]) (opT.flatsM _)⟩
 ·have hge : ¬ i < l.length := by simp at h1; omega
  (repeat (first | refine FW.seq ?_ | refine FW.region ?_ | refine FW.block ?_ | refine FW.exit ?_ | refine FW.condF rfl ?_ | refine RunN.nil ?_ | refine rn_assign rfl rfl rfl ?_ | refine rn_pickF rfl rfl rfl rfl ?_ | refine rn_skip rfl rfl ⟨_, _, rfl, rfl, rfl⟩ ?_))
  refine FW.loop (fun k : Nat => ⟨[(5, .own 100 0 0 s.out.length), (12, .int .i64 s.time), (20, .int .i64 k)], [(100, ⟨0, .own, 41, 8, (fixTo s.time s.out k).map OpV.fv⟩)]⟩) (fun k => k ≤ s.out.length) (fun k => s.out.length - k) 0 (Nat.zero_le _)
   (by rw [fixTo_zero]; exact (FLe.conv [⟨100, some 100, 0, ⟨0, .own, 41, 8, s.out.map OpV.fv⟩⟩] (by simp) (by simp) rfl (by repeat (first | exact .nil | refine .low rfl ?_ | refine .same rfl ?_ | refine .bump (Nat.lt_succ_self _) ?_)) (by repeat (first | exact .nil | refine .old rfl (by decide) rfl ?_)) (by repeat (first | exact .nil | refine .cons (.plain rfl rfl rfl) ?_ | refine .cons (.own rfl (.head _) rfl rfl) ?_)))) ?_
  intro k hk
  have hfl := fixTo_len s.time s.out k
  (repeat (first | refine FW.seq ?_ | refine FW.region ?_ | refine RunN.nil ?_ | refine rn_move rfl rfl rfl ?_ | refine rn_lenOwn rfl rfl rfl (by decide) rfl rfl ?_ | refine rn_lss rfl rfl rfl rfl ?_))
  refine FW.cond rfl (fun h => ?_) (fun h => ?_)
  ·have hkl : k < s.out.length := by simpa using h
   have hat := fixTo_at s.time hkl
   (repeat (first | refine FW.seq ?_ | refine FW.region ?_ | refine FW.block ?_ | refine FW.skip ?_ | refine RunN.nil ?_ | refine rn_move rfl rfl rfl ?_ | refine rn_indexO rfl rfl rfl rfl rfl rfl (by decide) rfl (by first | omega | (simp; omega)) rfl rfl ?_ | refine rn_loadP rfl rfl rfl rfl rfl (by first | omega | (simp; omega)) (by first | exact getD_map (by omega) | rfl) rfl rfl rfl rfl ?_ | refine rn_fieldP rfl rfl rfl rfl rfl rfl (by decide) rfl rfl ?_ | refine rn_not rfl rfl rfl ?_))
   rw [hat]
   refine FW.cond rfl (fun hd => ?_) (fun hd => ?_)
   ·have hd : (nth s.out k).done = false := by simpa using hd
    (repeat (first | refine FW.region ?_ | refine RunN.nil ?_ | refine rn_assign rfl rfl rfl ?_ | refine rn_move rfl rfl rfl ?_ | refine rn_indexO rfl rfl rfl rfl rfl rfl (by decide) rfl (by first | omega | (simp; omega)) rfl rfl ?_ | refine rn_storeR rfl rfl rfl rfl rfl rfl (by first | omega | (simp; omega)) (by first | exact getD_map (by omega) | rfl) rfl rfl rfl ?_ | refine rn_add rfl rfl (by omega) rfl rfl ?_ | refine rn_fieldP rfl rfl rfl rfl rfl rfl (by decide) rfl rfl ?_))
    refine ⟨k + 1, by omega, by omega, ?_⟩
    rw [fixTo_succ s.time hkl, mapO_set, show OpV.fv (hsFix s.time (nth s.out k)) = (OpV.fv (nth (fixTo s.time s.out k) k)).set 6 (.int .i64 s.time) by rw [hat]; unfold hsFix; rw [if_neg (by rw [hd]; decide)]; rfl]
    exact (FLe.conv [⟨100, some 100, 0, ⟨0, .own, 41, 8, ((fixTo s.time s.out k).map OpV.fv).set k ((OpV.fv (nth (fixTo s.time s.out k) k)).set 6 (.int .i64 s.time))⟩⟩] (by simp) (by simp) rfl (by repeat (first | exact .nil | refine .low rfl ?_ | refine .same rfl ?_ | refine .bump (Nat.lt_succ_self _) ?_)) (by repeat (first | exact .nil | refine .old rfl (by decide) rfl ?_)) (by repeat (first | exact .nil | refine .cons (.plain rfl rfl rfl) ?_ | refine .cons (.own rfl (.head _) rfl rfl) ?_)))
   ·have hd : (nth s.out k).done = true := by simpa using hd
    (repeat (first | refine FW.region ?_ | refine FW.skip ?_ | refine RunN.nil ?_ | refine rn_assign rfl rfl rfl ?_ | refine rn_move rfl rfl rfl ?_ | refine rn_add rfl rfl (by omega) rfl rfl ?_))
    refine ⟨k + 1, by omega, by omega, ?_⟩
    rw [fixTo_same s.time hkl hd]
    exact (FLe.conv [⟨100, some 100, 0, ⟨0, .own, 41, 8, (fixTo s.time s.out k).map OpV.fv⟩⟩] (by simp) (by simp) rfl (by repeat (first | exact .nil | refine .low rfl ?_ | refine .same rfl ?_ | refine .bump (Nat.lt_succ_self _) ?_)) (by repeat (first | exact .nil | refine .old rfl (by decide) rfl ?_)) (by repeat (first | exact .nil | refine .cons (.plain rfl rfl rfl) ?_ | refine .cons (.own rfl (.head _) rfl rfl) ?_)))
  ·have : k = s.out.length := by simp at h; omega
   subst this
   (repeat (first | refine FW.seq ?_ | refine FW.region ?_ | refine FW.exit ?_ | refine RunN.nil ?_ | refine rn_assign rfl rfl rfl ?_ | refine rn_move rfl rfl rfl ?_))
   exact FW.ret ⟨.inl rfl, ret_ow rfl rfl rfl (by simp; omega) (by decide) (by rw [hhist (by omega), fixTo_all]) (opT.flatsM _)⟩
end Go.Proofs.Ytbeebjdnapkhhaa
/-
 simproofref21.Bent, at plain values.
-/
namespace Go.Proofs.Ytbeebjdnapkhhaa
set_option linter.unusedVariables false
open Go.RowKit

end Go.Proofs.Ytbeebjdnapkhhaa
/-
 Generated histories of queues, bent: they stay histories, with small fields.
-/
namespace Go.Proofs.Ytbeebjdnapkhhaa
set_option linter.unusedVariables false
open Go.RowKit

/-! ### the values in a generated history are small -/
structure VInv (s : HS) : Prop where
 rs : ∀ p, p < 3 → 0 ≤ nth s.rs p ∧ nth s.rs p < s.fresh
 now : ∀ c, c < 2 → 0 ≤ nth s.now c ∧ nth s.now c < s.fresh
 qs : ∀ c, c < 2 → ∀ x ∈ nth s.qs c, 0 ≤ x ∧ x < s.fresh
 res : ∀ j, j < s.out.length → 0 ≤ (nth s.out j).res ∧ (nth s.out j).res < s.fresh
theorem VInv.init : VInv hsInit := by
 have h3 : ∀ p, p < 3 → p = 0 ∨ p = 1 ∨ p = 2 := fun p hp => by omega
 have h2 : ∀ c, c < 2 → c = 0 ∨ c = 1 := fun c hc => by omega
 refine ⟨fun p hp => ?_, fun c hc => ?_, fun c hc x hx => ?_, fun j hj => absurd hj (Nat.not_lt_zero _)⟩
 ·rcases h3 p hp with rfl | rfl | rfl <;> decide
 ·rcases h2 c hc with rfl | rfl <;> decide
 ·rcases h2 c hc with rfl | rfl <;> exact absurd hx (by show ¬ x ∈ ([] : List Int); simp)
theorem set_in {l : List Int} {n i : Nat} {v lo hi : Int} (h : ∀ p, p < n → lo ≤ nth l p ∧ nth l p < hi) (hv : lo ≤ v ∧ v < hi) : ∀ p, p < n → lo ≤ nth (l.set i v) p ∧ nth (l.set i v) p < hi := fun p hp => by
 by_cases e : i = p
 ·subst e
  by_cases hl : i < l.length
  ·rw [nth_set_same hl]; exact hv
  ·rw [List.set_eq_of_length_le (by omega)]; exact h i hp
 ·rw [nth_set_other e]; exact h p hp
theorem VInv.step {q : Bool} {i : Nat} {s : HS} (hI : HInv q i s) (h : VInv s) (x : Int) : VInv (hsStep q x s) := by
 unfold hsStep
 have hn : 0 ≤ around x 1000000 := around_lo (by decide)
 have hp : (around x 1000000 % 3).toNat < 3 := by omega
 generalize (around x 1000000 % 3).toNat = p at hp
 generalize around x 1000000 / 3 = m
 have h1 := hI.f1
 split
 ·have hfr : s.fresh ≤ (hsOpen q m p s).fresh := by
   show s.fresh ≤ if hsW (hsKind q m) = true then s.fresh + 1 else s.fresh
   split <;> omega
  refine ⟨fun p hp => ?_, fun c hc => ?_, fun c hc x hx => ?_, fun j hj => ?_⟩
  ·have := h.rs p hp; exact ⟨this.1, by show nth s.rs p < _; omega⟩
  ·have := h.now c hc; exact ⟨this.1, by show nth s.now c < _; omega⟩
  ·have := h.qs c hc x hx; exact ⟨this.1, by omega⟩
  ·show 0 ≤ (nth (s.out ++ [hsNew q m p s]) j).res ∧ (nth (s.out ++ [hsNew q m p s]) j).res < _
   have hj' : j < s.out.length + 1 := by simpa [hsOpen] using hj
   rcases Nat.lt_or_ge j s.out.length with h2 | h2
   ·rw [nth_append_left h2]
    have := h.res j h2
    exact ⟨this.1, by omega⟩
   ·have : j = s.out.length := by omega
    subst this
    rw [nth_append_len]
    exact ⟨Int.le_refl _, by show (0 : Int) < _; omega⟩
 ·rename_i hop
  have hop : 0 ≤ nth s.op p := by omega
  obtain ⟨hj0, _, _⟩ := hI.opn p hp hop
  have hO := hI.ops _ hj0
  have hE : VInv (hsEffM p s) := by
   unfold hsEffM
   split
   ·exact h
   ·generalize nth s.out (nth s.op p).toNat = o at hO
    have hkey := hO.key
    have harg := hO.arg
    have hf0 : (0 : Int) < (s.fresh : Int) := by omega
    have hk2 : o.key.toNat < 2 := by omega
    unfold hsEff
    split
    ·exact ⟨set_in h.rs ⟨Int.le_refl _, hf0⟩, set_in h.now harg, h.qs, h.res⟩
    ·split
     ·exact ⟨set_in h.rs (h.now _ hk2), h.now, h.qs, h.res⟩
     ·split
      ·refine ⟨set_in h.rs ⟨Int.le_refl _, hf0⟩, h.now, fun c hc x hx => ?_, h.res⟩
       have hx' : x ∈ nth (s.qs.set o.key.toNat (nth s.qs o.key.toNat ++ [o.arg])) c := hx
       by_cases e : o.key.toNat = c
       ·subst e
        rw [nth_set_same (by rw [hI.q2]; omega)] at hx'
        rcases List.mem_append.1 hx' with h3 | h3
        ·exact h.qs _ hc x h3
        ·rw [List.mem_singleton] at h3; subst h3; exact harg
       ·rw [nth_set_other e] at hx'; exact h.qs c hc x hx'
      ·split
       ·exact ⟨set_in h.rs ⟨Int.le_refl _, hf0⟩, h.now, h.qs, h.res⟩
       ·rename_i y r hq
        refine ⟨set_in h.rs (h.qs _ hk2 y (by rw [hq]; exact List.mem_cons_self)), h.now, fun c hc x hx => ?_, h.res⟩
        have hx' : x ∈ nth (s.qs.set o.key.toNat r) c := hx
        by_cases e : o.key.toNat = c
        ·subst e
         rw [nth_set_same (by rw [hI.q2]; omega)] at hx'
         exact h.qs _ hc x (by rw [hq]; exact List.mem_cons_of_mem _ hx')
        ·rw [nth_set_other e] at hx'; exact h.qs c hc x hx'
  unfold hsEnd
  split
  ·exact ⟨hE.rs, hE.now, hE.qs, hE.res⟩
  ·split
   ·refine ⟨hE.rs, hE.now, hE.qs, fun j hj => ?_⟩
    have hout : (hsDone p (hsEffM p s)).out = (hsEffM p s).out.set (nth (hsEffM p s).op p).toNat { nth (hsEffM p s).out (nth (hsEffM p s).op p).toNat with done := true, res := nth (hsEffM p s).rs p, ret := ((hsEffM p s).time : Int) } := rfl
    have hj' : j < (hsEffM p s).out.length := by rw [hout] at hj; simpa using hj
    show 0 ≤ (nth (hsDone p (hsEffM p s)).out j).res ∧ (nth (hsDone p (hsEffM p s)).out j).res < (hsEffM p s).fresh
    rw [hout]
    by_cases e : (nth (hsEffM p s).op p).toNat = j
    ·subst e
     rw [nth_set_same hj']; exact hE.rs p hp
    ·rw [nth_set_other e]; exact hE.res j hj'
   ·exact hE
theorem hsTo_v (q : Bool) (l : List Int) : ∀ i, VInv (hsTo q l i)
 | 0 => VInv.init
 | i + 1 => (hsTo_v q l i).step (hsTo_inv q l i) _
theorem histQ_res (q : Bool) (l : List Int) : ∀ o ∈ histQ q l, 0 ≤ o.res ∧ o.res ≤ 60 := fun o ho => by
 obtain ⟨x, hx, rfl⟩ := List.mem_map.1 ho
 obtain ⟨j, hj, rfl⟩ := List.getElem_of_mem hx
 have h := (hsTo_v q l (min l.length 60)).res j hj
 have hf := (hsTo_inv q l (min l.length 60)).fi
 rw [nth_eq hj] at h
 rw [(hsFix_same _ _).2.2.2.2.1]
 omega

structure OpB (q : Bool) (o : OpV) : Prop where
 k : (q = true ∧ (o.k = 3 ∨ o.k = 4)) ∨ (q = false ∧ (o.k = 0 ∨ o.k = 1))
 key : 0 ≤ o.key ∧ o.key ≤ 1
 arg : 0 ≤ o.arg ∧ o.arg ≤ 60
 res : 0 ≤ o.res ∧ o.res ≤ 60
 p : 0 ≤ o.p ∧ o.p ≤ 200
 call : 0 ≤ o.call ∧ o.call ≤ 60
 ret : 0 ≤ o.ret ∧ o.ret ≤ 60
structure Fine (q : Bool) (l : List OpV) : Prop where
 len : l.length ≤ 60
 ops : ∀ o ∈ l, OpB q o
 wf : WFH l
theorem histQ_fine (q : Bool) (l : List Int) : Fine q (histQ q l) :=
 ⟨histQ_len q l, fun o ho => let h := histQ_op q l o ho; ⟨h.k, h.key, h.arg, histQ_res q l o ho, h.p, h.call, h.ret⟩, histQ_wf q l⟩
theorem Fine.inn {q : Bool} {l : List OpV} (h : Fine q l) : ∀ o ∈ l, OpIn o := fun o ho => by
 have := h.ops o ho
 have hk := this.k
 have := this.key
 have := (h.ops o ho).arg
 have := (h.ops o ho).res
 have := (h.ops o ho).p
 have := (h.ops o ho).call
 have := (h.ops o ho).ret
 unfold OpIn I64
 omega
theorem Fine.set {q : Bool} {l : List OpV} (h : Fine q l) {i : Nat} (hi : i < l.length) {o : OpV} (hb : OpB q o) (hf : o.p = (nth l i).p ∧ o.k = (nth l i).k ∧ o.call = (nth l i).call ∧ o.ret = (nth l i).ret ∧ o.done = (nth l i).done ∧ ((nth l i).done = false → o.res = (nth l i).res)) : Fine q (l.set i o) :=
 ⟨by simpa using h.len, fun x hx => by
  rcases List.mem_or_eq_of_mem_set hx with hx | rfl
  ·exact h.ops x hx
  ·exact hb, h.wf.set hi hf⟩
end Go.Proofs.Ytbeebjdnapkhhaa
