/-
  linear.Check, at plain values.
-/
import Derived.Test.YtbeebjdnapkhhaaZFmLinz
import Derived.Test.YtbeebjdnapkhhaaZS
import Derived.Test.YtbeebjdnapkhhaaZD
namespace Go.Proofs.Ytbeebjdnapkhhaa
set_option linter.unusedVariables false
open Go.RowKit

def zkb.fv (v : zkb) : List FV := [.int .i64 2, .int .i64 v.cls, .int .i64 v.arg, .list 1 (v.ord.map zQ), .list 3 (v.ed.map rtf)]
def noV : List FV := [.int .i64 0, .int .i64 0, .int .i64 0, .list 1 [], .list 3 []]
def zdj (l : List OpV) : Int := if xF l ≠ 0 then xF l else if yq l then 0 else 22
noncomputable def zhK (l : List OpV) : List FV := if zdj l ≠ 0 then noV else (zfk l).fv
noncomputable def zaO (l : List OpV) : List FV := match zfR l with
 | some c => (UW l c).fv c
 | none => [.int .i64 2, .int .i64 0, .int .i64 0, .list 1 ((Uo l (yK l)).map zQ), .nil]
theorem zku (b : FV) : FV.le (.tup [.agg [.int .i64 0, .int .i64 0, .int .i64 0, .nil, .nil], b]) (.tup [.agg noV, b]) :=
 .tup (.cons (.agg (.cons (.refl _) (.cons (.refl _) (.cons (.refl _) (.cons (.nil 1) (.cons (.nil 3) .nil)))))) (.cons (.refl _) .nil))
theorem zic (l : List OpV) : (zjz l).length = l.length := yN _ _
set_option maxHeartbeats 8000000 in
theorem Yq (l : List OpV) (hl : l.length ≤ 1000000000) (hin : ∀ o ∈ l, zdm o) : yg Try.prog 14 [.list 8 (l.map OpV.fv)] .sh (.tup [.agg (zhK l), .int .i64 (zdj l)]) := by
 have hwr := zdh l hl hin
 have hic := zbq l hl hin
 have hck := zdM l hin hl
 have hks := zaL l (by omega)
 have hE : zdj l = if xF l ≠ 0 then xF l else if yq l then 0 else 22 := rfl
 have hF : zhK l = if zdj l ≠ 0 then noV else (zfk l).fv := rfl
 refine yg.leS (r := if zdj l ≠ 0 then .tup [.agg [.int .i64 0, .int .i64 0, .int .i64 0, .nil, .nil], .int .i64 (zdj l)] else .tup [.agg (zaO l), .int .i64 (zdj l)]) ?_ ?_ rfl
 ·obtain ⟨e, he⟩ : ∃ e, zdj l = e := ⟨_, rfl⟩
  rw [he] at hE ⊢
  refine yg.of_body (c := (Zy Try.prog zG zA 52)) ⟨Try.func14, rfl, Try.ntmps14, by kernel_rfl⟩ (by simp [FV.hand]) (by exact Nat.le_of_ble_eq_true rfl) (by split <;> rfl) ?_
  change FW _ _ _ ⟨[(0, .list 8 (l.map OpV.fv))], []⟩
  (repeat (first | refine FW.seq ?_ | refine FW.region ?_ | refine zc.nil ?_ | refine zY rfl rfl rfl rfl rfl rfl rfl ?_ | refine za rfl rfl rfl ?_ | refine zb rfl rfl rfl ?_))
  refine zJ hck (by repeat (first | exact zj.nil | refine zj.cons (by exact yu.plain rfl rfl) ?_)) rfl rfl ?_
  (repeat (first | refine FW.seq ?_ | refine FW.region ?_ | refine zc.nil ?_ | refine za rfl rfl rfl ?_ | refine zb rfl rfl rfl ?_ | refine Zc rfl rfl rfl rfl ?_))
  refine FW.cond rfl (fun h => ?_) (fun h => ?_)
  ·have h0 : xF l ≠ 0 := by simpa using h
   rw [if_pos h0] at hE
   rw [← hE] at h0 ⊢
   rw [if_pos h0]
   (repeat (first | refine FW.seq ?_ | refine FW.region ?_ | refine zc.nil ?_ | refine za rfl rfl rfl ?_ | refine zb rfl rfl rfl ?_ | refine yI rfl rfl rfl rfl ?_ | refine zC rfl rfl rfl rfl rfl rfl rfl rfl rfl ?_ | refine yP.nil ?_))
   refine FW.ret ⟨.inl rfl, .sh (.cons (Za rfl rfl rfl rfl rfl rfl (by decide)) (.cons (.tmp 3 rfl rfl) .nil)) ?_ rfl⟩
   rfl
  ·have h0 : xF l = 0 := by simpa using h
   rw [if_neg (by simpa using h0)] at hE
   by_cases D : yq l
   ·rw [if_pos D] at hE
    subst hE
    rw [if_neg (show ¬ (0 : Int) ≠ 0 by decide)]
    rw [if_pos D, decide_eq_true D] at hwr
    have H := VJ h0 D
    have hl3 := (zaD h0).1
    have hil := zic l
    have hi0 := fun i hi => zgE (l := l) (i := i) D hi
    have hKI : ∀ c ∈ yK l, I64 c := fun c hc => by
     obtain ⟨o, h1, h2⟩ := (ZO l c).1 hc
     rw [← h2]; exact (hin o h1).2.2.1
    have hkl := zcA l
    have hvk := fun i hi => zjV (l := l) (i := i) hi
    have hvn := Wv (l := l)
    have hlz := Wi l (zjz l) hl3 hin H
    have hvs := fun c hc => zaB l c (zjz l) hl3 hin hc D hil hi0
    generalize YX l l.length = W at hvs hic hwr
    generalize zjz l = ins at hvs hic hil hi0 hlz
    obtain ⟨K, hKe⟩ : ∃ K, yK l = K := ⟨_, rfl⟩
    rw [hKe] at hKI hkl hks hvn hlz
    simp only [hKe] at hvk
    (repeat (first | refine FW.seq ?_ | refine FW.region ?_ | refine FW.skip ?_ | refine zb rfl rfl rfl ?_))
    refine yZ hwr (by repeat (first | exact zj.nil | refine zj.cons (by exact yu.plain rfl rfl) ?_)) rfl rfl ?_
    (repeat (first | refine FW.seq ?_ | refine FW.region ?_ | refine FW.skip ?_ | refine FW.condF rfl ?_ | refine zc.nil ?_ | refine za rfl rfl rfl ?_ | refine zb rfl rfl rfl ?_ | refine zI rfl rfl rfl rfl rfl ?_ | refine Yz rfl rfl rfl ?_))
    refine ye hic (by repeat (first | exact zj.nil | refine zj.cons (by exact yu.plain rfl rfl) ?_)) (List.length_map _) rfl rfl rfl ?_
    refine zc.le ?_ (FLe.share 28 rfl rfl (by simp))
    (repeat (first | refine FW.seq ?_ | refine FW.region ?_ | refine zc.nil ?_ | refine za rfl rfl rfl ?_ | refine zb rfl rfl rfl ?_))
    refine ye hks (by repeat (first | exact zj.nil | refine zj.cons (by exact yu.plain rfl rfl) ?_)) (List.length_map _) rfl rfl rfl ?_
    (repeat (first | refine FW.block ?_ | refine zc.nil ?_ | refine zb rfl rfl rfl ?_ | refine yf rfl rfl rfl (by decide) rfl rfl ?_))
    refine FW.loop (fun i : Nat => ⟨[(0, .list 8 (l.map OpV.fv)), (2, .ptr 101 0 0 0), (5, .smap W), (7, .list 1 (ins.map bof)), (30, .own 102 0 0 K.length), (31, .int .i64 K.length), (32, .int .i64 i)], [(101, ⟨0, .own, 30, 5, [[.int .i64 0, .int .i64 0, .int .i64 0, .nil, .nil]]⟩), (102, ⟨0, .own, 3, 1, K.map zF⟩)]⟩) (fun i => i ≤ K.length ∧ ∀ j, j < i → (UW l (nth K j)).cls = 0) (fun i => K.length - i) 0 ⟨Nat.zero_le _, fun j hj => by omega⟩ ?_ ?_
    ·exact (FLe.conv [⟨101, some 2, 0 + 1, ⟨0, .own, 30, 5, [[.int .i64 0, .int .i64 0, .int .i64 0, .nil, .nil]]⟩⟩, ⟨102, some 30, 0 + 1, ⟨0, .own, 3, 1, K.map zF⟩⟩] (by simp) (by simp) rfl (by repeat (first | exact .nil | refine .low rfl ?_ | refine .same rfl ?_ | refine .bump (Nat.lt_succ_self _) ?_)) (by repeat (first | exact .nil | refine .old rfl (by decide) rfl ?_)) (by repeat (first | exact .nil | refine .cons (.plain rfl rfl rfl) ?_ | refine .cons (.ptr rfl (.head _) rfl) ?_ | refine .cons (.own rfl (.tail _ (.head _)) rfl rfl) ?_)))
    rintro i ⟨hi, hno⟩
    (repeat (first | refine FW.seq ?_ | refine FW.region ?_ | refine zc.nil ?_ | refine zH rfl rfl rfl rfl ?_))
    refine FW.cond rfl (fun h => ?_) (fun h => ?_)
    ·have hlt : i < K.length := by simpa using h
     clear h
     have hvk := hvk i hlt hno
     obtain ⟨c, hc⟩ : ∃ c, nth K i = c := ⟨_, rfl⟩
     have hci := hKI _ (zn hlt)
     rw [hc] at hci hvk
     have hvs := hvs c hci
     have hi2 : (UW l c).cls = 0 → ∀ j, j < i + 1 → (UW l (nth K j)).cls = 0 := fun h j hj => by
      by_cases e : j = i
      ·subst e; rw [hc]; exact h
      ·exact hno j (by omega)
     obtain ⟨v, hv⟩ : ∃ v, UW l c = v := ⟨_, rfl⟩
     rw [hv] at hvk hvs hi2
     (repeat (first | refine FW.seq ?_ | refine FW.region ?_ | refine FW.block ?_ | refine FW.skip ?_ | refine zc.nil ?_ | refine za rfl rfl rfl ?_ | refine zb rfl rfl rfl ?_ | refine zx rfl rfl rfl rfl rfl rfl (by decide) rfl (by first | omega | (simp; omega)) rfl rfl ?_ | refine zq rfl rfl rfl rfl rfl (by first | omega | (simp; omega)) (by first | exact zd (by omega) | rfl) rfl rfl rfl rfl ?_))
     rw [hc]
     skip
     refine yZ hvs (by repeat (first | exact zj.nil | refine zj.cons (by exact yu.plain rfl rfl) ?_)) rfl rfl ?_
     (repeat (first | refine FW.seq ?_ | refine FW.region ?_ | refine zc.nil ?_ | refine zY rfl rfl rfl rfl rfl rfl rfl ?_ | refine za rfl rfl rfl ?_ | refine zb rfl rfl rfl ?_ | refine zC rfl rfl rfl rfl rfl rfl rfl rfl rfl ?_ | refine zI rfl rfl rfl rfl rfl ?_))
     refine FW.cond rfl (fun h => ?_) (fun h => ?_)
     ·have hR : zaO l = v.fv c := by unfold zaO; rw [hvk (by simpa using h)]; dsimp only; rw [hv]
      rw [hR]
      (repeat (first | refine FW.seq ?_ | refine FW.region ?_ | refine zc.nil ?_ | refine za rfl rfl rfl ?_ | refine zC rfl rfl rfl rfl rfl rfl rfl rfl rfl ?_ | refine zS rfl rfl rfl (by decide) rfl rfl (by simp; done) rfl rfl rfl rfl ?_))
      refine FW.ret ⟨.inl rfl, .sh (.cons (Za rfl rfl rfl rfl rfl rfl (by decide)) (.cons (.tmp 3 rfl rfl) .nil)) ?_ rfl⟩
      rfl
     ·(repeat (first | refine FW.region ?_ | refine FW.skip ?_ | refine zc.nil ?_ | refine zb rfl rfl rfl ?_ | refine zu rfl rfl (by omega) rfl rfl ?_))
      refine ⟨i + 1, ⟨by omega, hi2 (by simpa using h)⟩, by omega, ?_⟩
      exact (FLe.conv [⟨101, some 101, 0, ⟨0, .own, 30, 5, [[.int .i64 0, .int .i64 0, .int .i64 0, .nil, .nil]]⟩⟩, ⟨102, some 102, 0, ⟨0, .own, 3, 1, K.map zF⟩⟩] (by simp) (by simp) rfl (by repeat (first | exact .nil | refine .low rfl ?_ | refine .same rfl ?_ | refine .bump (Nat.lt_succ_self _) ?_)) (by repeat (first | exact .nil | refine .old rfl (by decide) rfl ?_)) (by repeat (first | exact .nil | refine .cons (.plain rfl rfl rfl) ?_ | refine .cons (.ptr rfl (.head _) rfl) ?_ | refine .cons (.own rfl (.tail _ (.head _)) rfl rfl) ?_)))
    ·obtain rfl : i = K.length := by simp at h; omega
     have hall : ∀ c ∈ K, VO l c := fun c hc => by
      obtain ⟨j, hj, e⟩ := List.getElem_of_mem hc
      have := hno j hj
      rw [zi hj, e] at this
      exact zhG.1 this
     have hlz := hlz hall hil hi0
     have hR : zaO l = [.int .i64 2, .int .i64 0, .int .i64 0, .list 1 ((Uo l K).map zQ), .nil] := by unfold zaO; rw [hvn.2 hall]; dsimp only; rw [hKe]
     rw [hR]
     (repeat (first | refine FW.seq ?_ | refine FW.region ?_ | refine FW.exit ?_ | refine zb rfl rfl rfl ?_))
     refine ye hlz (by repeat (first | exact zj.nil | refine zj.cons (by exact yu.plain rfl rfl) ?_)) (List.length_map _) rfl rfl rfl ?_
     refine zc.le ?_ (FLe.share 49 rfl rfl (by simp))
     (repeat (first | refine zc.nil ?_ | refine za rfl rfl rfl ?_ | refine yI rfl rfl rfl rfl ?_ | refine zC rfl rfl rfl rfl rfl rfl rfl rfl rfl ?_ | refine yP.nil ?_ | refine yP.one rfl rfl rfl rfl rfl ?_ | refine yP.agg rfl rfl rfl rfl (List.cons_ne_nil _ _) rfl ?_))
     refine FW.ret ⟨.inl rfl, .sh (.cons (Za rfl rfl rfl rfl rfl rfl (by decide)) (.cons (.tmp 3 rfl rfl) .nil)) ?_ rfl⟩
     rfl
   ·rw [if_neg D] at hE
    subst hE
    rw [if_pos (show (22 : Int) ≠ 0 by decide)]
    rw [if_neg D, decide_eq_false D] at hwr
    (repeat (first | refine FW.seq ?_ | refine FW.region ?_ | refine FW.skip ?_ | refine zb rfl rfl rfl ?_))
    refine yZ hwr (by repeat (first | exact zj.nil | refine zj.cons (by exact yu.plain rfl rfl) ?_)) rfl rfl ?_
    (repeat (first | refine FW.seq ?_ | refine FW.region ?_ | refine FW.condT rfl ?_ | refine zc.nil ?_ | refine za rfl rfl rfl ?_ | refine zb rfl rfl rfl ?_ | refine yI rfl rfl rfl rfl ?_ | refine zC rfl rfl rfl rfl rfl rfl rfl rfl rfl ?_ | refine zI rfl rfl rfl rfl rfl ?_ | refine Yz rfl rfl rfl ?_ | refine yP.nil ?_))
    refine FW.ret ⟨.inl rfl, .sh (.cons (Za rfl rfl rfl rfl rfl rfl (by decide)) (.cons (.tmp 3 rfl rfl) .nil)) ?_ rfl⟩
    rfl
 ·rw [hF]
  split
  ·exact zku _
  ·refine .tup (.cons (.agg ?_) (.cons (.refl _) .nil))
   unfold zaO zfk
   cases zfR l with
   | some c => exact .cons (.refl _) (.cons (.refl _) (.cons (.refl _) (.cons (.refl _) (.cons (.refl _) .nil))))
   | none => exact .cons (.refl _) (.cons (.refl _) (.cons (.refl _) (.cons (.refl _) (.cons (.nil 3) .nil))))
end Go.Proofs.Ytbeebjdnapkhhaa
