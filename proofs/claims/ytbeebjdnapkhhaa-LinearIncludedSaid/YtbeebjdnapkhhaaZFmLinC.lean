/-
  linear.Check, at plain values.
-/
import Derived.Test.YtbeebjdnapkhhaaZFmLinz
import Derived.Test.YtbeebjdnapkhhaaZS
import Derived.Test.YtbeebjdnapkhhaaZD
namespace Go.Proofs.Ytbeebjdnapkhhaa
set_option linter.unusedVariables false
open Go.RowKit

def zkA.fv (v : zkA) : List FV := [.int .i64 2, .int .i64 v.cls, .int .i64 v.arg, .list 1 (v.ord.map yg), .list 3 (v.ed.map rtf)]
def noV : List FV := [.int .i64 0, .int .i64 0, .int .i64 0, .list 1 [], .list 3 []]
def zbT (l : List OpV) : Int := if xz l ≠ 0 then xz l else if zX l then 0 else 22
noncomputable def zfR (l : List OpV) : List FV := if zbT l ≠ 0 then noV else (zda l).fv
noncomputable def zaQ (l : List OpV) : List FV := match UZ l with
 | some c => (YX l c).fv c
 | none => [.int .i64 2, .int .i64 0, .int .i64 0, .list 1 ((zfi l (yQ l)).map yg), .nil]
theorem zki (b : FV) : FV.le (.tup [.agg [.int .i64 0, .int .i64 0, .int .i64 0, .nil, .nil], b]) (.tup [.agg noV, b]) :=
 .tup (.cons (.agg (.cons (.refl _) (.cons (.refl _) (.cons (.refl _) (.cons (.nil 1) (.cons (.nil 3) .nil)))))) (.cons (.refl _) .nil))
theorem zh8 (l : List OpV) : (zjt l).length = l.length := yN _ _
set_option maxHeartbeats 8000000 in
theorem Zd (l : List OpV) (hl : l.length ≤ 1000000000) (hin : ∀ o ∈ l, zaf o) : yd Try.prog 14 [.list 8 (l.map OpV.fv)] .sh (.tup [.agg (zfR l), .int .i64 (zbT l)]) := by
 have hwr := zc8 l hl hin
 have hic := zbs l hl hin
 have hck := zdz l hin hl
 have hks := zaN l (by omega)
 have hE : zbT l = if xz l ≠ 0 then xz l else if zX l then 0 else 22 := rfl
 have hF : zfR l = if zbT l ≠ 0 then noV else (zda l).fv := rfl
 refine yd.leS (r := if zbT l ≠ 0 then .tup [.agg [.int .i64 0, .int .i64 0, .int .i64 0, .nil, .nil], .int .i64 (zbT l)] else .tup [.agg (zaQ l), .int .i64 (zbT l)]) ?_ ?_ rfl
 ·obtain ⟨e, he⟩ : ∃ e, zbT l = e := ⟨_, rfl⟩
  rw [he] at hE ⊢
  refine yd.of_body (c := (ZD Try.prog zF zy 52)) ⟨Try.func14, rfl, Try.ntmps14, by kernel_rfl⟩ (by simp [FV.hand]) (by exact Nat.le_of_ble_eq_true rfl) (by split <;> rfl) ?_
  change FW _ _ _ ⟨[(0, .list 8 (l.map OpV.fv))], []⟩
  (repeat (first | refine FW.seq ?_ | refine FW.region ?_ | refine zc.nil ?_ | refine zT rfl rfl rfl rfl rfl rfl rfl ?_ | refine za rfl rfl rfl ?_ | refine zb rfl rfl rfl ?_))
  refine zM hck (by repeat (first | exact zi.nil | refine zi.cons (by exact ym.plain rfl rfl) ?_)) rfl rfl ?_
  (repeat (first | refine FW.seq ?_ | refine FW.region ?_ | refine zc.nil ?_ | refine za rfl rfl rfl ?_ | refine zb rfl rfl rfl ?_ | refine YA rfl rfl rfl rfl ?_))
  refine FW.cond rfl (fun h => ?_) (fun h => ?_)
  ·have h0 : xz l ≠ 0 := by simpa using h
   rw [if_pos h0] at hE
   rw [← hE] at h0 ⊢
   rw [if_pos h0]
   (repeat (first | refine FW.seq ?_ | refine FW.region ?_ | refine zc.nil ?_ | refine za rfl rfl rfl ?_ | refine zb rfl rfl rfl ?_ | refine yG rfl rfl rfl rfl ?_ | refine zB rfl rfl rfl rfl rfl rfl rfl rfl rfl ?_ | refine yR.nil ?_))
   refine FW.ret ⟨.inl rfl, .sh (.cons (xZ rfl rfl rfl rfl rfl rfl (by decide)) (.cons (.tmp 3 rfl rfl) .nil)) ?_ rfl⟩
   rfl
  ·have h0 : xz l = 0 := by simpa using h
   rw [if_neg (by simpa using h0)] at hE
   by_cases D : zX l
   ·rw [if_pos D] at hE
    subst hE
    rw [if_neg (show ¬ (0 : Int) ≠ 0 by decide)]
    rw [if_pos D, decide_eq_true D] at hwr
    have H := zb2 h0 D
    have hl3 := (zaF h0).1
    have hil := zh8 l
    have hi0 := fun i hi => zgx (l := l) (i := i) D hi
    have hKI : ∀ c ∈ yQ l, I64 c := fun c hc => by
     obtain ⟨o, h1, h2⟩ := (ZX l c).1 hc
     rw [← h2]; exact (hin o h1).2.2.1
    have hkl := zcu l
    have hvk := fun i hi => zjM (l := l) (i := i) hi
    have hvn := zaa (l := l)
    have hlz := Wo l (zjt l) hl3 hin H
    have hvs := fun c hc => zaE l c (zjt l) hl3 hin hc D hil hi0
    generalize YY l l.length = W at hvs hic hwr
    generalize zjt l = ins at hvs hic hil hi0 hlz
    obtain ⟨K, hKe⟩ : ∃ K, yQ l = K := ⟨_, rfl⟩
    rw [hKe] at hKI hkl hks hvn hlz
    simp only [hKe] at hvk
    (repeat (first | refine FW.seq ?_ | refine FW.region ?_ | refine FW.skip ?_ | refine zb rfl rfl rfl ?_))
    refine xn hwr (by repeat (first | exact zi.nil | refine zi.cons (by exact ym.plain rfl rfl) ?_)) rfl rfl ?_
    (repeat (first | refine FW.seq ?_ | refine FW.region ?_ | refine FW.skip ?_ | refine FW.condF rfl ?_ | refine zc.nil ?_ | refine za rfl rfl rfl ?_ | refine zb rfl rfl rfl ?_ | refine zI rfl rfl rfl rfl rfl ?_ | refine YV rfl rfl rfl ?_))
    refine zU hic (by repeat (first | exact zi.nil | refine zi.cons (by exact ym.plain rfl rfl) ?_)) (List.length_map _) rfl rfl rfl ?_
    refine zc.le ?_ (FLe.share 28 rfl rfl (by simp))
    (repeat (first | refine FW.seq ?_ | refine FW.region ?_ | refine zc.nil ?_ | refine za rfl rfl rfl ?_ | refine zb rfl rfl rfl ?_))
    refine zU hks (by repeat (first | exact zi.nil | refine zi.cons (by exact ym.plain rfl rfl) ?_)) (List.length_map _) rfl rfl rfl ?_
    (repeat (first | refine FW.block ?_ | refine zc.nil ?_ | refine zb rfl rfl rfl ?_ | refine yc rfl rfl rfl (by decide) rfl rfl ?_))
    refine FW.loop (fun i : Nat => ⟨[(0, .list 8 (l.map OpV.fv)), (2, .ptr 101 0 0 0), (5, .smap W), (7, .list 1 (ins.map bof)), (30, .own 102 0 0 K.length), (31, .int .i64 K.length), (32, .int .i64 i)], [(101, ⟨0, .own, 30, 5, [[.int .i64 0, .int .i64 0, .int .i64 0, .nil, .nil]]⟩), (102, ⟨0, .own, 3, 1, K.map zE⟩)]⟩) (fun i => i ≤ K.length ∧ ∀ j, j < i → (YX l (nth K j)).cls = 0) (fun i => K.length - i) 0 ⟨Nat.zero_le _, fun j hj => by omega⟩ ?_ ?_
    ·exact (FLe.conv [⟨101, some 2, 0 + 1, ⟨0, .own, 30, 5, [[.int .i64 0, .int .i64 0, .int .i64 0, .nil, .nil]]⟩⟩, ⟨102, some 30, 0 + 1, ⟨0, .own, 3, 1, K.map zE⟩⟩] (by simp) (by simp) rfl (by repeat (first | exact .nil | refine .low rfl ?_ | refine .same rfl ?_ | refine .bump (Nat.lt_succ_self _) ?_)) (by repeat (first | exact .nil | refine .old rfl (by decide) rfl ?_)) (by repeat (first | exact .nil | refine .cons (.plain rfl rfl rfl) ?_ | refine .cons (.ptr rfl (.head _) rfl) ?_ | refine .cons (.own rfl (.tail _ (.head _)) rfl rfl) ?_)))
    rintro i ⟨hi, hno⟩
    (repeat (first | refine FW.seq ?_ | refine FW.region ?_ | refine zc.nil ?_ | refine zH rfl rfl rfl rfl ?_))
    refine FW.cond rfl (fun h => ?_) (fun h => ?_)
    ·have hlt : i < K.length := by simpa using h
     clear h
     have hvk := hvk i hlt hno
     obtain ⟨c, hc⟩ : ∃ c, nth K i = c := ⟨_, rfl⟩
     have hci := hKI _ (zA hlt)
     rw [hc] at hci hvk
     have hvs := hvs c hci
     have hi2 : (YX l c).cls = 0 → ∀ j, j < i + 1 → (YX l (nth K j)).cls = 0 := fun h j hj => by
      by_cases e : j = i
      ·subst e; rw [hc]; exact h
      ·exact hno j (by omega)
     obtain ⟨v, hv⟩ : ∃ v, YX l c = v := ⟨_, rfl⟩
     rw [hv] at hvk hvs hi2
     (repeat (first | refine FW.seq ?_ | refine FW.region ?_ | refine FW.block ?_ | refine FW.skip ?_ | refine zc.nil ?_ | refine za rfl rfl rfl ?_ | refine zb rfl rfl rfl ?_ | refine zu rfl rfl rfl rfl rfl rfl (by decide) rfl (by first | omega | (simp; omega)) rfl rfl ?_ | refine zn rfl rfl rfl rfl rfl (by first | omega | (simp; omega)) (by first | exact zd (by omega) | rfl) rfl rfl rfl rfl ?_))
     rw [hc]
     skip
     refine xn hvs (by repeat (first | exact zi.nil | refine zi.cons (by exact ym.plain rfl rfl) ?_)) rfl rfl ?_
     (repeat (first | refine FW.seq ?_ | refine FW.region ?_ | refine zc.nil ?_ | refine zT rfl rfl rfl rfl rfl rfl rfl ?_ | refine za rfl rfl rfl ?_ | refine zb rfl rfl rfl ?_ | refine zB rfl rfl rfl rfl rfl rfl rfl rfl rfl ?_ | refine zI rfl rfl rfl rfl rfl ?_))
     refine FW.cond rfl (fun h => ?_) (fun h => ?_)
     ·have hR : zaQ l = v.fv c := by unfold zaQ; rw [hvk (by simpa using h)]; dsimp only; rw [hv]
      rw [hR]
      (repeat (first | refine FW.seq ?_ | refine FW.region ?_ | refine zc.nil ?_ | refine za rfl rfl rfl ?_ | refine zB rfl rfl rfl rfl rfl rfl rfl rfl rfl ?_ | refine zL rfl rfl rfl (by decide) rfl rfl (by simp; done) rfl rfl rfl rfl ?_))
      refine FW.ret ⟨.inl rfl, .sh (.cons (xZ rfl rfl rfl rfl rfl rfl (by decide)) (.cons (.tmp 3 rfl rfl) .nil)) ?_ rfl⟩
      rfl
     ·(repeat (first | refine FW.region ?_ | refine FW.skip ?_ | refine zc.nil ?_ | refine zb rfl rfl rfl ?_ | refine zt rfl rfl (by omega) rfl rfl ?_))
      refine ⟨i + 1, ⟨by omega, hi2 (by simpa using h)⟩, by omega, ?_⟩
      exact (FLe.conv [⟨101, some 101, 0, ⟨0, .own, 30, 5, [[.int .i64 0, .int .i64 0, .int .i64 0, .nil, .nil]]⟩⟩, ⟨102, some 102, 0, ⟨0, .own, 3, 1, K.map zE⟩⟩] (by simp) (by simp) rfl (by repeat (first | exact .nil | refine .low rfl ?_ | refine .same rfl ?_ | refine .bump (Nat.lt_succ_self _) ?_)) (by repeat (first | exact .nil | refine .old rfl (by decide) rfl ?_)) (by repeat (first | exact .nil | refine .cons (.plain rfl rfl rfl) ?_ | refine .cons (.ptr rfl (.head _) rfl) ?_ | refine .cons (.own rfl (.tail _ (.head _)) rfl rfl) ?_)))
    ·obtain rfl : i = K.length := by simp at h; omega
     have hall : ∀ c ∈ K, VO l c := fun c hc => by
      obtain ⟨j, hj, e⟩ := List.getElem_of_mem hc
      have := hno j hj
      rw [zg hj, e] at this
      exact zc6.1 this
     have hlz := hlz hall hil hi0
     have hR : zaQ l = [.int .i64 2, .int .i64 0, .int .i64 0, .list 1 ((zfi l K).map yg), .nil] := by unfold zaQ; rw [hvn.2 hall]; dsimp only; rw [hKe]
     rw [hR]
     (repeat (first | refine FW.seq ?_ | refine FW.region ?_ | refine FW.exit ?_ | refine zb rfl rfl rfl ?_))
     refine zU hlz (by repeat (first | exact zi.nil | refine zi.cons (by exact ym.plain rfl rfl) ?_)) (List.length_map _) rfl rfl rfl ?_
     refine zc.le ?_ (FLe.share 49 rfl rfl (by simp))
     (repeat (first | refine zc.nil ?_ | refine za rfl rfl rfl ?_ | refine yG rfl rfl rfl rfl ?_ | refine zB rfl rfl rfl rfl rfl rfl rfl rfl rfl ?_ | refine yR.nil ?_ | refine yR.one rfl rfl rfl rfl rfl ?_ | refine yR.agg rfl rfl rfl rfl (List.cons_ne_nil _ _) rfl ?_))
     refine FW.ret ⟨.inl rfl, .sh (.cons (xZ rfl rfl rfl rfl rfl rfl (by decide)) (.cons (.tmp 3 rfl rfl) .nil)) ?_ rfl⟩
     rfl
   ·rw [if_neg D] at hE
    subst hE
    rw [if_pos (show (22 : Int) ≠ 0 by decide)]
    rw [if_neg D, decide_eq_false D] at hwr
    (repeat (first | refine FW.seq ?_ | refine FW.region ?_ | refine FW.skip ?_ | refine zb rfl rfl rfl ?_))
    refine xn hwr (by repeat (first | exact zi.nil | refine zi.cons (by exact ym.plain rfl rfl) ?_)) rfl rfl ?_
    (repeat (first | refine FW.seq ?_ | refine FW.region ?_ | refine FW.condT rfl ?_ | refine zc.nil ?_ | refine za rfl rfl rfl ?_ | refine zb rfl rfl rfl ?_ | refine yG rfl rfl rfl rfl ?_ | refine zB rfl rfl rfl rfl rfl rfl rfl rfl rfl ?_ | refine zI rfl rfl rfl rfl rfl ?_ | refine YV rfl rfl rfl ?_ | refine yR.nil ?_))
    refine FW.ret ⟨.inl rfl, .sh (.cons (xZ rfl rfl rfl rfl rfl rfl (by decide)) (.cons (.tmp 3 rfl rfl) .nil)) ?_ rfl⟩
    rfl
 ·rw [hF]
  split
  ·exact zki _
  ·refine .tup (.cons (.agg ?_) (.cons (.refl _) .nil))
   unfold zaQ zda
   cases UZ l with
   | some c => exact .cons (.refl _) (.cons (.refl _) (.cons (.refl _) (.cons (.refl _) (.cons (.refl _) .nil))))
   | none => exact .cons (.refl _) (.cons (.refl _) (.cons (.refl _) (.cons (.refl _) (.cons (.nil 3) .nil))))
end Go.Proofs.Ytbeebjdnapkhhaa
