/-
  simprooflaw21.only, at plain values; the verdict of a part.
-/
import Derived.Test.YtbeebjdnapkhhaaZLinSub
import Derived.Test.YtbeebjdnapkhhaaZLawLinearChecks
namespace Go.Proofs.Ytbeebjdnapkhhaa
set_option linter.unusedVariables false
open Go.RowKit

def zbU (ks : List Bool) (k : Nat) : List Nat := (List.range k).filter fun i => nth ks i
theorem zgR (ks : List Bool) (k : Nat) : zbU ks (k + 1) = zbU ks k ++ if nth ks k = true then [k] else [] := by
 unfold zbU
 rw [List.range_succ, List.filter_append]
 congr 1
 by_cases h : nth ks k = true
 ·rw [if_pos h, List.filter_cons_of_pos (by exact h)]; rfl
 ·rw [if_neg h, List.filter_cons_of_neg (by exact h)]; rfl
theorem zil (ks : List Bool) (k : Nat) : (zbU ks k).length ≤ k := by unfold zbU; exact Nat.le_trans (List.length_filter_le _ _) (by simp)
theorem zew {ks : List Bool} {k i : Nat} : i ∈ zbU ks k ↔ i < k ∧ nth ks i = true := by unfold zbU; rw [List.mem_filter, List.mem_range]
set_option maxHeartbeats 4000000 in
theorem zfh (l : List OpV) (ks : List Bool) (hl : l.length ≤ 1000000) (hk : ks.length = l.length) : yd Try.prog 23 [.list 8 (l.map OpV.fv), .list 1 (ks.map bof)] (.ow 41 8) (.list 8 ((Xt l (zbU ks l.length)).map OpV.fv)) := by
 refine yd.of_body (c := (ZD Try.prog zF zy 25)) ⟨Try.func23, rfl, Try.ntmps23, by kernel_rfl⟩ (by simp [FV.hand]) (by exact Nat.le_of_ble_eq_true rfl) rfl ?_
 change FW _ _ _ ⟨[(0, .list 8 (l.map OpV.fv)), (1, .list 1 (ks.map bof))], []⟩
 (repeat (first | refine FW.seq ?_ | refine FW.region ?_ | refine FW.block ?_ | refine zc.nil ?_ | refine za rfl rfl rfl ?_))
 refine FW.loop (fun k : Nat => ⟨[(0, .list 8 (l.map OpV.fv)), (1, .list 1 (ks.map bof)), (5, .own 100 0 0 (Xt l (zbU ks k)).length), (6, .int .i64 k)], [(100, ⟨0, .own, 41, 8, (Xt l (zbU ks k)).map OpV.fv⟩)]⟩) (fun k => k ≤ l.length) (fun k => l.length - k) 0 (Nat.zero_le _) ?_ ?_
 ·show FLe _ ⟨[(0, .list 8 (l.map OpV.fv)), (1, .list 1 (ks.map bof)), (5, .own 100 0 0 0), (6, .int .i64 0)], [(100, ⟨0, .own, 41, 8, []⟩)]⟩
  exact (FLe.conv [⟨100, none, 0, ⟨0, .own, 41, 8, []⟩⟩] (by simp) (by simp) rfl (by repeat (first | exact .nil | refine .low rfl ?_)) (by repeat (first | exact .nil | refine .new ?_)) (by repeat (first | exact .nil | refine .cons (.plain rfl rfl rfl) ?_ | refine .cons (.nil rfl (.head _) rfl) ?_)))
 intro k hkk
 have hs := zgR ks k
 have hle := zil ks k
 have hsl : (Xt l (zbU ks k)).length = (zbU ks k).length := yP
 have hss : Xt l (zbU ks (k + 1)) = Xt l (zbU ks k) ++ if nth ks k = true then [nth l k] else [] := by
  rw [hs]
  unfold Xt
  rw [List.map_append]
  split <;> rfl
 obtain ⟨S, hS⟩ : ∃ S, Xt l (zbU ks k) = S := ⟨_, rfl⟩
 rw [hS] at hsl hss ⊢
 (repeat (first | refine FW.seq ?_ | refine FW.region ?_ | refine zc.nil ?_ | refine zb rfl rfl rfl ?_ | refine zw rfl rfl (by exact List.length_map _) rfl rfl ?_ | refine zH rfl rfl rfl rfl ?_))
 refine FW.cond rfl (fun h => ?_) (fun h => ?_)
 ·have hlt : k < l.length := by simpa using h
  clear h
  obtain ⟨o, ho⟩ : ∃ o, nth l k = o := ⟨_, rfl⟩
  rw [ho] at hss
  (repeat (first | refine FW.seq ?_ | refine FW.region ?_ | refine FW.block ?_ | refine FW.skip ?_ | refine zc.nil ?_ | refine zb rfl rfl rfl ?_ | refine zC rfl rfl rfl rfl rfl rfl (by simp; omega) rfl rfl ?_ | refine zD rfl rfl rfl (by simp; omega) (by first | exact zd (by omega) | rfl) rfl rfl rfl rfl ?_))
  refine FW.cond rfl (fun h => ?_) (fun h => ?_)
  ·rw [if_pos h] at hss
   (repeat (first | refine FW.region ?_ | refine zc.nil ?_ | refine za rfl rfl rfl ?_ | refine zb rfl rfl rfl ?_ | refine zC rfl rfl rfl rfl rfl rfl (by first | (simp; omega) | (simp; done)) rfl rfl ?_ | refine yJ rfl rfl rfl (by decide) (by first | (simp; omega) | (simp; done)) (by first | exact zd (by omega) | rfl) rfl rfl rfl ?_ | refine yT rfl rfl rfl rfl rfl rfl rfl rfl rfl rfl ?_ | refine xF rfl rfl (by first | exact (List.length_map _).symm | rfl | (simp; done) | (simp; omega)) rfl rfl rfl (by decide) (by exact XR.own rfl rfl (by decide) (by first | exact List.length_map _ | exact (List.length_map _).symm | exact List.length_replicate | rfl | (simp; done) | omega | (simp; omega))) (by first | (simp; omega) | (simp; done)) (by first | (simp; omega) | (simp; done)) rfl rfl rfl ?_ | refine zt rfl rfl (by omega) rfl rfl ?_))
   refine ⟨k + 1, by omega, by omega, ?_⟩
   rw [hss, List.map_append, ← ho]
   exact (FLe.conv [⟨100, some 23, 0 + 1, ⟨0, .own, 41, 8, S.map OpV.fv ++ [nth l k].map OpV.fv⟩⟩] (by simp) (by simp) rfl (by repeat (first | exact .nil | refine .low rfl ?_)) (by repeat (first | exact .nil | refine .old rfl (by decide) (by first | rfl | (simp; done)) ?_)) (by repeat (first | exact .nil | refine .cons (.plain rfl rfl (by first | rfl | (simp; done))) ?_ | refine .cons (.own rfl (.head _) rfl (by first | rfl | (simp; done))) ?_)))
  ·rw [if_neg (by rw [h]; decide), List.append_nil] at hss
   (repeat (first | refine FW.region ?_ | refine FW.skip ?_ | refine zc.nil ?_ | refine za rfl rfl rfl ?_ | refine zb rfl rfl rfl ?_ | refine zt rfl rfl (by omega) rfl rfl ?_))
   refine ⟨k + 1, by omega, by omega, ?_⟩
   rw [hss]
   exact (FLe.conv [⟨100, some 100, 0, ⟨0, .own, 41, 8, S.map OpV.fv⟩⟩] (by simp) (by simp) rfl (by repeat (first | exact .nil | refine .low rfl ?_)) (by repeat (first | exact .nil | refine .old rfl (by decide) rfl ?_)) (by repeat (first | exact .nil | refine .cons (.plain rfl rfl rfl) ?_ | refine .cons (.own rfl (.head _) rfl rfl) ?_)))
 ·obtain rfl : k = l.length := by simp at h; omega
  (repeat (first | refine FW.seq ?_ | refine FW.region ?_ | refine FW.exit ?_ | refine zc.nil ?_ | refine za rfl rfl rfl ?_ | refine zb rfl rfl rfl ?_))
  exact FW.ret ⟨.inl rfl, xK rfl rfl rfl (by simp) (by decide) (by rw [hS]) (opT.flatsM _)⟩
theorem zim (l : List OpV) (ks : List Bool) : (Xt l (zbU ks l.length)).Sublist l := by
 have h : ((List.range l.length).filter fun i => nth ks i).Sublist (List.range l.length) := List.filter_sublist
 have := h.map (nth l)
 rw [Xy] at this
 exact this
theorem VG {l : List OpV} (D : zX l) {c : Int} : UZ l = some c ↔ (YX l c).cls ≠ 0 ∧ ∀ d, (YX l d).cls ≠ 0 → c ≤ d := by
 have hmem : ∀ d, (YX l d).cls ≠ 0 → d ∈ yQ l := fun d hd => Classical.byContradiction fun h => hd (zc6.2 (zhL D h))
 have fwd : ∀ c, UZ l = some c → (YX l c).cls ≠ 0 ∧ ∀ d, (YX l d).cls ≠ 0 → c ≤ d := fun c h => by
  unfold UZ at h
  obtain ⟨h1, i, hi, he, hlt⟩ := List.find?_eq_some_iff_getElem.1 h
  simp only [decide_eq_true_eq] at h1
  refine ⟨h1, fun d hd => ?_⟩
  obtain ⟨p, hp, hpe⟩ := List.getElem_of_mem (hmem d hd)
  have hpi : i ≤ p := by
   refine Nat.le_of_not_lt fun hlt2 => ?_
   have := hlt p hlt2
   simp only [hpe, Bool.not_eq_true', decide_eq_false_iff_not] at this
   exact this hd
  rcases Nat.lt_or_eq_of_le hpi with h5 | h5
  ·have := List.pairwise_iff_getElem.1 (Ut l) i p hi hp h5
   rw [he, hpe] at this
   omega
  ·subst h5
   rw [he] at hpe
   omega
 refine ⟨fwd c, fun ⟨h1, h2⟩ => ?_⟩
 cases h : UZ l with
 | none => exact absurd (zc6.2 (zaa.1 h c (hmem c h1))) h1
 | some d =>
  obtain ⟨g1, g2⟩ := fwd d h
  have := h2 d g1
  have := g2 c h1
  have : d = c := by omega
  rw [this]
theorem zjL {l l' : List OpV} (D : zX l) (D' : zX l') (h : ∀ c, (YX l' c).cls = (YX l c).cls) : UZ l' = UZ l := by
 cases h1 : UZ l with
 | some c => exact (VG D').2 (by
   have := (VG D).1 h1
   exact ⟨by rw [h]; exact this.1, fun d hd => this.2 d (by rw [← h]; exact hd)⟩)
 | none =>
  cases h2 : UZ l' with
  | none => rfl
  | some c =>
   have := (VG D').1 h2
   have h3 := (VG (l := l) D (c := c)).2 ⟨by rw [← h]; exact this.1, fun d hd => this.2 d (by rw [h]; exact hd)⟩
   rw [h1] at h3; cases h3
theorem VA {l : List OpV} : (zda l).cls = (match UZ l with | some c => (YX l c).cls | none => 0) ∧ (zda l).arg = (match UZ l with | some c => c | none => 0) := by
 unfold zda
 cases UZ l <;> exact ⟨rfl, rfl⟩
end Go.Proofs.Ytbeebjdnapkhhaa
