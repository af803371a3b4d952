/-
  linear.Check, at plain values.
-/
import Derived.Test.YtbeebjdnapkhhaaZFmLinz
import Derived.Test.YtbeebjdnapkhhaaZS
import Derived.Test.YtbeebjdnapkhhaaZD
namespace Go.Proofs.Ytbeebjdnapkhhaa
set_option linter.unusedVariables false
open Go.RowKit

def zkK.fv (v : zkK) : List FV := [.int .i64 2, .int .i64 v.cls, .int .i64 v.arg, .list 1 (v.ord.map yu), .list 3 (v.ed.map rtf)]
def noV : List FV := [.int .i64 0, .int .i64 0, .int .i64 0, .list 1 [], .list 3 []]
def zdC (l : List OpV) : Int := if xI l ≠ 0 then xI l else if yj l then 0 else 22
noncomputable def zjI (l : List OpV) : List FV := if zdC l ≠ 0 then noV else (zfN l).fv
noncomputable def za5 (l : List OpV) : List FV := match zgk l with
 | some c => (zaj l c).fv c
 | none => [.int .i64 2, .int .i64 0, .int .i64 0, .list 1 ((Vl l (yS l)).map yu), .nil]
theorem zk4 (b : FV) : FV.le (.tup [.agg [.int .i64 0, .int .i64 0, .int .i64 0, .nil, .nil], b]) (.tup [.agg noV, b]) :=
 .tup (.cons (.agg (.cons (.refl _) (.cons (.refl _) (.cons (.refl _) (.cons (.nil 1) (.cons (.nil 3) .nil)))))) (.cons (.refl _) .nil))
theorem zeO (l : List OpV) : (ziL l).length = l.length := yP _ _
set_option maxHeartbeats 8000000 in
theorem YB (l : List OpV) (hl : l.length ≤ 1000000000) (hin : ∀ o ∈ l, zci o) : zU Try.prog 14 [.list 8 (l.map OpV.fv)] .sh (.tup [.agg (zjI l), .int .i64 (zdC l)]) := by
 have hwr := Vo l hl hin
 have hic := Wr l hl hin
 have hck := zd5 l hin hl
 have hks := za2 l (by omega)
 have hE : zdC l = if xI l ≠ 0 then xI l else if yj l then 0 else 22 := rfl
 have hF : zjI l = if zdC l ≠ 0 then noV else (zfN l).fv := rfl
 refine zU.leS (r := if zdC l ≠ 0 then .tup [.agg [.int .i64 0, .int .i64 0, .int .i64 0, .nil, .nil], .int .i64 (zdC l)] else .tup [.agg (za5 l), .int .i64 (zdC l)]) ?_ ?_ rfl
 ·obtain ⟨e, he⟩ : ∃ e, zdC l = e := ⟨_, rfl⟩
  rw [he] at hE ⊢
  refine zU.of_body (c := (xN Try.prog zE zA 52)) ⟨Try.func14, rfl, Try.ntmps14, by kernel_rfl⟩ (by simp [FV.hand]) (by exact Nat.le_of_ble_eq_true rfl) (by split <;> rfl) ?_
  change FW _ _ _ ⟨[(0, .list 8 (l.map OpV.fv))], []⟩
  (repeat (first | refine FW.seq ?_ | refine FW.region ?_ | refine zc.nil ?_ | refine yb rfl rfl rfl rfl rfl rfl rfl ?_ | refine za rfl rfl rfl ?_ | refine zb rfl rfl rfl ?_))
  refine zH hck (by repeat (first | exact zh.nil | refine zh.cons (by exact yf.plain rfl rfl) ?_)) rfl rfl ?_
  (repeat (first | refine FW.seq ?_ | refine FW.region ?_ | refine zc.nil ?_ | refine za rfl rfl rfl ?_ | refine zb rfl rfl rfl ?_ | refine xP rfl rfl rfl rfl ?_))
  refine FW.cond rfl (fun h => ?_) (fun h => ?_)
  ·have h0 : xI l ≠ 0 := by simpa using h
   rw [if_pos h0] at hE
   rw [← hE] at h0 ⊢
   rw [if_pos h0]
   (repeat (first | refine FW.seq ?_ | refine FW.region ?_ | refine zc.nil ?_ | refine za rfl rfl rfl ?_ | refine zb rfl rfl rfl ?_ | refine yK rfl rfl rfl rfl ?_ | refine zG rfl rfl rfl rfl rfl rfl rfl rfl rfl ?_ | refine yT.nil ?_))
   refine FW.ret ⟨.inl rfl, .sh (.cons (Zk rfl rfl rfl rfl rfl rfl (by decide)) (.cons (.tmp 3 rfl rfl) .nil)) ?_ rfl⟩
   rfl
  ·have h0 : xI l = 0 := by simpa using h
   rw [if_neg (by simpa using h0)] at hE
   by_cases D : yj l
   ·rw [if_pos D] at hE
    subst hE
    rw [if_neg (show ¬ (0 : Int) ≠ 0 by decide)]
    rw [if_pos D, decide_eq_true D] at hwr
    have H := Ua h0 D
    have hl3 := (zaU h0).1
    have hil := zeO l
    have hi0 := fun i hi => zcV (l := l) (i := i) D hi
    have hKI : ∀ c ∈ yS l, I64 c := fun c hc => by
     obtain ⟨o, h1, h2⟩ := (Yd l c).1 hc
     rw [← h2]; exact (hin o h1).2.2.1
    have hkl := zcP l
    have hvk := fun i hi => zkv (l := l) (i := i) hi
    have hvn := WI (l := l)
    have hlz := Ww l (ziL l) hl3 hin H
    have hvs := fun c hc => zaR l c (ziL l) hl3 hin hc D hil hi0
    generalize YM l l.length = W at hvs hic hwr
    generalize ziL l = ins at hvs hic hil hi0 hlz
    obtain ⟨K, hKe⟩ : ∃ K, yS l = K := ⟨_, rfl⟩
    rw [hKe] at hKI hkl hks hvn hlz
    simp only [hKe] at hvk
    (repeat (first | refine FW.seq ?_ | refine FW.region ?_ | refine FW.skip ?_ | refine zb rfl rfl rfl ?_))
    refine xx hwr (by repeat (first | exact zh.nil | refine zh.cons (by exact yf.plain rfl rfl) ?_)) rfl rfl ?_
    (repeat (first | refine FW.seq ?_ | refine FW.region ?_ | refine FW.skip ?_ | refine FW.condF rfl ?_ | refine zc.nil ?_ | refine za rfl rfl rfl ?_ | refine zb rfl rfl rfl ?_ | refine zP rfl rfl rfl rfl rfl ?_ | refine xE rfl rfl rfl ?_))
    refine yc hic (by repeat (first | exact zh.nil | refine zh.cons (by exact yf.plain rfl rfl) ?_)) (List.length_map _) rfl rfl rfl ?_
    refine zc.le ?_ (FLe.share 28 rfl rfl (by simp))
    (repeat (first | refine FW.seq ?_ | refine FW.region ?_ | refine zc.nil ?_ | refine za rfl rfl rfl ?_ | refine zb rfl rfl rfl ?_))
    refine yc hks (by repeat (first | exact zh.nil | refine zh.cons (by exact yf.plain rfl rfl) ?_)) (List.length_map _) rfl rfl rfl ?_
    (repeat (first | refine FW.block ?_ | refine zc.nil ?_ | refine zb rfl rfl rfl ?_ | refine yp rfl rfl rfl (by decide) rfl rfl ?_))
    refine FW.loop (fun i : Nat => ⟨[(0, .list 8 (l.map OpV.fv)), (2, .ptr 101 0 0 0), (5, .smap W), (7, .list 1 (ins.map bof)), (30, .own 102 0 0 K.length), (31, .int .i64 K.length), (32, .int .i64 i)], [(101, ⟨0, .own, 30, 5, [[.int .i64 0, .int .i64 0, .int .i64 0, .nil, .nil]]⟩), (102, ⟨0, .own, 3, 1, K.map zF⟩)]⟩) (fun i => i ≤ K.length ∧ ∀ j, j < i → (zaj l (nth K j)).cls = 0) (fun i => K.length - i) 0 ⟨Nat.zero_le _, fun j hj => by omega⟩ ?_ ?_
    ·exact (FLe.conv [⟨101, some 2, 0 + 1, ⟨0, .own, 30, 5, [[.int .i64 0, .int .i64 0, .int .i64 0, .nil, .nil]]⟩⟩, ⟨102, some 30, 0 + 1, ⟨0, .own, 3, 1, K.map zF⟩⟩] (by simp) (by simp) rfl (by repeat (first | exact .nil | refine .low rfl ?_ | refine .same rfl ?_ | refine .bump (Nat.lt_succ_self _) ?_)) (by repeat (first | exact .nil | refine .old rfl (by decide) rfl ?_)) (by repeat (first | exact .nil | refine .cons (.plain rfl rfl rfl) ?_ | refine .cons (.ptr rfl (.head _) rfl) ?_ | refine .cons (.own rfl (.tail _ (.head _)) rfl rfl) ?_)))
    rintro i ⟨hi, hno⟩
    (repeat (first | refine FW.seq ?_ | refine FW.region ?_ | refine zc.nil ?_ | refine zJ rfl rfl rfl rfl ?_))
    refine FW.cond rfl (fun h => ?_) (fun h => ?_)
    ·have hlt : i < K.length := by simpa using h
     clear h
     have hvk := hvk i hlt hno
     obtain ⟨c, hc⟩ : ∃ c, nth K i = c := ⟨_, rfl⟩
     have hci := hKI _ (zp hlt)
     rw [hc] at hci hvk
     have hvs := hvs c hci
     have hi2 : (zaj l c).cls = 0 → ∀ j, j < i + 1 → (zaj l (nth K j)).cls = 0 := fun h j hj => by
      by_cases e : j = i
      ·subst e; rw [hc]; exact h
      ·exact hno j (by omega)
     obtain ⟨v, hv⟩ : ∃ v, zaj l c = v := ⟨_, rfl⟩
     rw [hv] at hvk hvs hi2
     (repeat (first | refine FW.seq ?_ | refine FW.region ?_ | refine FW.block ?_ | refine FW.skip ?_ | refine zc.nil ?_ | refine za rfl rfl rfl ?_ | refine zb rfl rfl rfl ?_ | refine zC rfl rfl rfl rfl rfl rfl (by decide) rfl (by first | omega | (simp; omega)) rfl rfl ?_ | refine zn rfl rfl rfl rfl rfl (by first | omega | (simp; omega)) (by first | exact zd (by omega) | rfl) rfl rfl rfl rfl ?_))
     rw [hc]
     skip
     refine xx hvs (by repeat (first | exact zh.nil | refine zh.cons (by exact yf.plain rfl rfl) ?_)) rfl rfl ?_
     (repeat (first | refine FW.seq ?_ | refine FW.region ?_ | refine zc.nil ?_ | refine yb rfl rfl rfl rfl rfl rfl rfl ?_ | refine za rfl rfl rfl ?_ | refine zb rfl rfl rfl ?_ | refine zG rfl rfl rfl rfl rfl rfl rfl rfl rfl ?_ | refine zP rfl rfl rfl rfl rfl ?_))
     refine FW.cond rfl (fun h => ?_) (fun h => ?_)
     ·have hR : za5 l = v.fv c := by unfold za5; rw [hvk (by simpa using h)]; dsimp only; rw [hv]
      rw [hR]
      (repeat (first | refine FW.seq ?_ | refine FW.region ?_ | refine zc.nil ?_ | refine za rfl rfl rfl ?_ | refine zG rfl rfl rfl rfl rfl rfl rfl rfl rfl ?_ | refine zW rfl rfl rfl (by decide) rfl rfl (by simp; done) rfl rfl rfl rfl ?_))
      refine FW.ret ⟨.inl rfl, .sh (.cons (Zk rfl rfl rfl rfl rfl rfl (by decide)) (.cons (.tmp 3 rfl rfl) .nil)) ?_ rfl⟩
      rfl
     ·(repeat (first | refine FW.region ?_ | refine FW.skip ?_ | refine zc.nil ?_ | refine zb rfl rfl rfl ?_ | refine zu rfl rfl (by omega) rfl rfl ?_))
      refine ⟨i + 1, ⟨by omega, hi2 (by simpa using h)⟩, by omega, ?_⟩
      exact (FLe.conv [⟨101, some 101, 0, ⟨0, .own, 30, 5, [[.int .i64 0, .int .i64 0, .int .i64 0, .nil, .nil]]⟩⟩, ⟨102, some 102, 0, ⟨0, .own, 3, 1, K.map zF⟩⟩] (by simp) (by simp) rfl (by repeat (first | exact .nil | refine .low rfl ?_ | refine .same rfl ?_ | refine .bump (Nat.lt_succ_self _) ?_)) (by repeat (first | exact .nil | refine .old rfl (by decide) rfl ?_)) (by repeat (first | exact .nil | refine .cons (.plain rfl rfl rfl) ?_ | refine .cons (.ptr rfl (.head _) rfl) ?_ | refine .cons (.own rfl (.tail _ (.head _)) rfl rfl) ?_)))
    ·obtain rfl : i = K.length := by simp at h; omega
     have hall : ∀ c ∈ K, VO l c := fun c hc => by
      obtain ⟨j, hj, e⟩ := List.getElem_of_mem hc
      have := hno j hj
      rw [zi hj, e] at this
      exact zh8.1 this
     have hlz := hlz hall hil hi0
     have hR : za5 l = [.int .i64 2, .int .i64 0, .int .i64 0, .list 1 ((Vl l K).map yu), .nil] := by unfold za5; rw [hvn.2 hall]; dsimp only; rw [hKe]
     rw [hR]
     (repeat (first | refine FW.seq ?_ | refine FW.region ?_ | refine FW.exit ?_ | refine zb rfl rfl rfl ?_))
     refine yc hlz (by repeat (first | exact zh.nil | refine zh.cons (by exact yf.plain rfl rfl) ?_)) (List.length_map _) rfl rfl rfl ?_
     refine zc.le ?_ (FLe.share 49 rfl rfl (by simp))
     (repeat (first | refine zc.nil ?_ | refine za rfl rfl rfl ?_ | refine yK rfl rfl rfl rfl ?_ | refine zG rfl rfl rfl rfl rfl rfl rfl rfl rfl ?_ | refine yT.nil ?_ | refine yT.one rfl rfl rfl rfl rfl ?_ | refine yT.agg rfl rfl rfl rfl (List.cons_ne_nil _ _) rfl ?_))
     refine FW.ret ⟨.inl rfl, .sh (.cons (Zk rfl rfl rfl rfl rfl rfl (by decide)) (.cons (.tmp 3 rfl rfl) .nil)) ?_ rfl⟩
     rfl
   ·rw [if_neg D] at hE
    subst hE
    rw [if_pos (show (22 : Int) ≠ 0 by decide)]
    rw [if_neg D, decide_eq_false D] at hwr
    (repeat (first | refine FW.seq ?_ | refine FW.region ?_ | refine FW.skip ?_ | refine zb rfl rfl rfl ?_))
    refine xx hwr (by repeat (first | exact zh.nil | refine zh.cons (by exact yf.plain rfl rfl) ?_)) rfl rfl ?_
    (repeat (first | refine FW.seq ?_ | refine FW.region ?_ | refine FW.condT rfl ?_ | refine zc.nil ?_ | refine za rfl rfl rfl ?_ | refine zb rfl rfl rfl ?_ | refine yK rfl rfl rfl rfl ?_ | refine zG rfl rfl rfl rfl rfl rfl rfl rfl rfl ?_ | refine zP rfl rfl rfl rfl rfl ?_ | refine xE rfl rfl rfl ?_ | refine yT.nil ?_))
    refine FW.ret ⟨.inl rfl, .sh (.cons (Zk rfl rfl rfl rfl rfl rfl (by decide)) (.cons (.tmp 3 rfl rfl) .nil)) ?_ rfl⟩
    rfl
 ·rw [hF]
  split
  ·exact zk4 _
  ·refine .tup (.cons (.agg ?_) (.cons (.refl _) .nil))
   unfold za5 zfN
   cases zgk l with
   | some c => exact .cons (.refl _) (.cons (.refl _) (.cons (.refl _) (.cons (.refl _) (.cons (.refl _) .nil))))
   | none => exact .cons (.refl _) (.cons (.refl _) (.cons (.refl _) (.cons (.refl _) (.cons (.nil 3) .nil))))
end Go.Proofs.Ytbeebjdnapkhhaa
