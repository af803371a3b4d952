/-
  simprooflaw21.LinearZones answers true for every input (walked on plain values).
-/
import Derived.Test.YtbeebjdnapkhhaaZLawLinearChecks
namespace Go.Proofs.Ytbeebjdnapkhhaa
set_option linter.unusedVariables false
open Go.RowKit

structure zao (l : List OpV) (c : Int) (e : Nat × Nat) : Prop where
 p : e.1 < l.length
 q : e.2 < l.length
 ip : yn l e.1 = true
 iq : yn l e.2 = true
 kp : (nth l e.1).key = c
 kq : (nth l e.2).key = c
 b : bef l e.1 e.2 = true
theorem zfp {l : List OpV} {c : Int} (D : yu l) (hin : ∀ o ∈ l, zbE o) (h : Xt l c ≠ []) :
  (∃ e, Xt l c = [e] ∧ zao l c e ∧ ZX (nth l e.2) = 0 ∧ ZX (nth l e.1) ≠ 0) ∨
  ∃ e f, Xt l c = [e, f] ∧ zao l c e ∧ zao l c f ∧ ZX (nth l e.1) = ZX (nth l f.2) ∧ ZX (nth l e.2) = ZX (nth l f.1) ∧ ZX (nth l e.1) ≠ ZX (nth l e.2) ∧ ZX (nth l e.1) ≠ 0 ∧ ZX (nth l e.2) ≠ 0 := by
 obtain ⟨a, j, _, _, h3, h4, h5⟩ := zdJ (l := l) (C := yV l c) (f := (yV l c).length) (i := 0) h
 unfold Xt at h ⊢
 rw [h5] at h ⊢
 have ha : a < (yV l c).length := by omega
 have hed : ∀ {p q : Nat}, p < (yV l c).length → q < (yV l c).length → VH l (nth (yV l c) p).ops < zal l (nth (yV l c) q).ops → zao l c (Yg l (nth (yV l c) p).ops, Yw l (nth (yV l c) q).ops) ∧ ZX (nth l (Yg l (nth (yV l c) p).ops)) = Yv l c p ∧ ZX (nth l (Yw l (nth (yV l c) q).ops)) = Yv l c q := fun {p q} hp hq hlt => by
  have m1 := (xg D hp).1 (zbX (l := l) (VA D hp))
  have m2 := (xg D hq).1 (zcl (l := l) (VA D hq))
  refine ⟨⟨m1.1, m2.1, m1.2.2.2, m2.2.2.2, m1.2.1, m2.2.1, ?_⟩, m1.2.2.1, m2.2.2.1⟩
  have o2 := hin _ (zC m2.1)
  unfold VH zal Yu at hlt
  unfold bef
  dsimp only
  cases hd : (nth l (Yg l (nth (yV l c) p).ops)).done with
  | true =>
   rw [hd] at hlt
   simp only [if_true] at hlt
   simpa using hlt
  | false =>
   rw [hd] at hlt
   simp only [Bool.false_eq_true, if_false] at hlt
   unfold zbE I64 at o2
   omega
 have hj0 : Yv l c j ≠ 0 := by
  rcases xO h4 with ⟨_, _, h2⟩ | ⟨w, w1, w2, h1, h2⟩
  ·have := (zdL h4 (by rw [h2])).1; omega
  ·rw [h1]; exact D.arg w1 (ZJ.1 w2).2.1
 have haj : Yv l c a ≠ Yv l c j := fun e => by
  have := VB D ha h4 e; omega
 unfold Xh at h ⊢
 by_cases c1 : VH l (nth (yV l c) j).ops ≥ zal l (nth (yV l c) a).ops
 ·rw [if_pos c1] at h; exact absurd rfl h
 rw [if_neg c1] at h ⊢
 obtain ⟨e1, v1, v2⟩ := hed h4 ha (Int.lt_of_not_ge c1)
 by_cases c2 : (nth (yV l c) a).ini = true
 ·rw [if_pos c2] at h ⊢
  refine .inl ⟨_, rfl, e1, ?_, by dsimp only; rw [v1]; exact hj0⟩
  dsimp only
  rw [v2]
  rcases xO ha with ⟨_, k1, _⟩ | ⟨u, _, _, _, k2⟩
  ·exact k1
  ·rw [k2] at c2; cases c2
 ·rw [if_neg c2] at h ⊢
  by_cases c3 : VH l (nth (yV l c) a).ops < zal l (nth (yV l c) j).ops
  ·rw [if_pos c3] at h ⊢
   obtain ⟨e2, v3, v4⟩ := hed ha h4 c3
   have ha0 : Yv l c a ≠ 0 := by
    rcases xO ha with ⟨_, _, k2⟩ | ⟨u, u1, u2, k1, _⟩
    ·rw [k2] at c2; exact absurd rfl c2
    ·rw [k1]; exact D.arg u1 (ZJ.1 u2).2.1
   refine .inr ⟨_, _, rfl, e2, e1, ?_⟩
   dsimp only
   rw [v1, v2, v3, v4]
   exact ⟨rfl, rfl, haj, ha0, hj0⟩
  ·rw [if_neg c3] at h; exact absurd rfl h
set_option maxHeartbeats 4000000 in
theorem zdq (l : List OpV) (c : Int) (e : Nat × Nat) (hl : l.length ≤ 1000000) (h : zao l c e) : yc Try.prog 20 [.list 8 (l.map OpV.fv), .agg (rtf e), .int .i64 c] .fr (.bool true) := by
 obtain ⟨p, q⟩ := e
 obtain ⟨h1, h2, h3, h4, h5, h6, h7⟩ := h
 dsimp only at h1 h2 h3 h4 h5 h6 h7
 have ip := Xp l p hl h1
 have iq := Xp l q hl h2
 have hb := zcu l p q h1 h2
 rw [h3] at ip
 rw [h4] at iq
 rw [h7] at hb
 refine yc.of_body (c := (Zq Try.prog zE zy 74)) ⟨Try.func20, rfl, Try.ntmps20, by kernel_rfl⟩ (by simp [FV.hand]) (by exact Nat.le_of_ble_eq_true rfl) rfl ?_
 change FW _ _ _ ⟨[(0, .list 8 (l.map OpV.fv)), (1, .agg [.int .i64 (p : Nat), .int .i64 (q : Nat), .int .i64 5]), (2, .int .i64 c)], []⟩
 (repeat (first | refine FW.seq ?_ | refine FW.region ?_ | refine zd.nil ?_ | refine ZI rfl rfl rfl rfl rfl rfl rfl ?_ | refine za rfl rfl rfl ?_ | refine zg rfl rfl rfl rfl rfl rfl (by decide) rfl rfl ?_ | refine zh rfl rfl rfl rfl rfl (by simp; done) rfl rfl rfl rfl rfl ?_ | refine zJ rfl rfl rfl rfl ?_ | refine zb rfl rfl rfl ?_ | refine zL rfl rfl rfl rfl ?_ | refine zg rfl rfl rfl rfl rfl rfl (by decide) rfl ⟨_, _, rfl, rfl, rfl⟩ ?_ | refine zh rfl rfl rfl rfl rfl (by simp; done) rfl rfl rfl rfl ⟨_, _, rfl, rfl, rfl⟩ ?_ | refine zJ rfl rfl rfl ⟨_, _, rfl, rfl, rfl⟩ ?_ | refine zb rfl rfl ⟨_, _, rfl, rfl, rfl⟩ ?_ | refine zn rfl rfl (by first | exact List.length_map _ | rfl | (simp; done)) rfl ⟨_, _, rfl, rfl, rfl⟩ ?_ | refine WR rfl rfl rfl ⟨_, _, rfl, rfl, rfl⟩ ?_))
 refine zY (fun h => ?_) (fun _ => ?_)
 ·exact absurd (of_decide_eq_true h) (by omega)
 (repeat (first | refine zb rfl rfl rfl ?_ | refine zL rfl rfl rfl rfl ?_ | refine zg rfl rfl rfl rfl rfl rfl (by decide) rfl ⟨_, _, rfl, rfl, rfl⟩ ?_ | refine zh rfl rfl rfl rfl rfl (by simp; done) rfl rfl rfl rfl ⟨_, _, rfl, rfl, rfl⟩ ?_ | refine zb rfl rfl ⟨_, _, rfl, rfl, rfl⟩ ?_ | refine zn rfl rfl (by first | exact List.length_map _ | rfl | (simp; done)) rfl ⟨_, _, rfl, rfl, rfl⟩ ?_ | refine WR rfl rfl rfl ⟨_, _, rfl, rfl, rfl⟩ ?_))
 refine zY (fun h => ?_) (fun _ => ?_)
 ·exact absurd (of_decide_eq_true h) (by omega)
 (repeat (first | refine FW.seq ?_ | refine FW.region ?_ | refine FW.skip ?_ | refine FW.condF rfl ?_ | refine zd.nil ?_ | refine zg rfl rfl rfl rfl rfl rfl (by decide) rfl rfl ?_ | refine zh rfl rfl rfl rfl rfl (by simp; done) rfl rfl rfl rfl rfl ?_ | refine zb rfl rfl rfl ?_ | refine zL rfl rfl rfl rfl ?_ | refine zg rfl rfl rfl rfl rfl rfl (by decide) rfl ⟨_, _, rfl, rfl, rfl⟩ ?_ | refine zh rfl rfl rfl rfl rfl (by simp; done) rfl rfl rfl rfl ⟨_, _, rfl, rfl, rfl⟩ ?_ | refine xu rfl rfl rfl ⟨_, _, rfl, rfl, rfl⟩ ?_))
 refine zI ip (by repeat (first | exact zi.nil | refine zi.cons (by exact yj.plain rfl rfl) ?_)) rfl rfl ?_
 (repeat (first | refine zb rfl rfl rfl ?_ | refine zg rfl rfl rfl rfl rfl rfl (by decide) rfl ⟨_, _, rfl, rfl, rfl⟩ ?_ | refine zh rfl rfl rfl rfl rfl (by simp; done) rfl rfl rfl rfl ⟨_, _, rfl, rfl, rfl⟩ ?_ | refine zb rfl rfl ⟨_, _, rfl, rfl, rfl⟩ ?_))
 refine zI iq (by repeat (first | exact zi.nil | refine zi.cons (by exact yj.plain rfl rfl) ?_)) rfl ⟨_, _, rfl, rfl, rfl⟩ ?_
 (repeat (first | refine FW.seq ?_ | refine FW.region ?_ | refine zd.nil ?_ | refine za rfl rfl rfl ?_ | refine zb rfl rfl rfl ?_ | refine zH rfl rfl rfl rfl ?_ | refine yh rfl rfl rfl rfl rfl rfl ⟨_, _, rfl, rfl, rfl⟩ ?_ | refine zg rfl rfl rfl rfl rfl rfl (by decide) rfl ⟨_, _, rfl, rfl, rfl⟩ ?_ | refine zD rfl rfl rfl (by first | (simp; omega) | (simp; done)) (by first | exact zc (by omega) | rfl) rfl rfl rfl ⟨_, _, rfl, rfl, rfl⟩ ?_ | refine zh rfl rfl rfl rfl rfl (by first | (simp; omega) | (simp; done)) (by first | exact zc (by omega) | rfl) rfl rfl rfl ⟨_, _, rfl, rfl, rfl⟩ ?_ | refine zb rfl rfl ⟨_, _, rfl, rfl, rfl⟩ ?_ | refine zu rfl rfl rfl rfl rfl rfl (by first | (simp; omega) | (simp; done)) rfl ⟨_, _, rfl, rfl, rfl⟩ ?_ | refine yq rfl rfl rfl ⟨_, _, rfl, rfl, rfl⟩ ?_))
 rw [h5]
 refine zY (fun _ => ?_) (fun h => ?_)
 ·(repeat (first | refine zb rfl rfl rfl ?_ | refine zH rfl rfl rfl rfl ?_ | refine yh rfl rfl rfl rfl rfl rfl ⟨_, _, rfl, rfl, rfl⟩ ?_ | refine zg rfl rfl rfl rfl rfl rfl (by decide) rfl ⟨_, _, rfl, rfl, rfl⟩ ?_ | refine zD rfl rfl rfl (by first | (simp; omega) | (simp; done)) (by first | exact zc (by omega) | rfl) rfl rfl rfl ⟨_, _, rfl, rfl, rfl⟩ ?_ | refine zh rfl rfl rfl rfl rfl (by first | (simp; omega) | (simp; done)) (by first | exact zc (by omega) | rfl) rfl rfl rfl ⟨_, _, rfl, rfl, rfl⟩ ?_ | refine zb rfl rfl ⟨_, _, rfl, rfl, rfl⟩ ?_ | refine zu rfl rfl rfl rfl rfl rfl (by first | (simp; omega) | (simp; done)) rfl ⟨_, _, rfl, rfl, rfl⟩ ?_ | refine yq rfl rfl rfl ⟨_, _, rfl, rfl, rfl⟩ ?_))
  rw [h6]
  refine zY (fun _ => ?_) (fun h => ?_)
  ·(repeat (first | refine zg rfl rfl rfl rfl rfl rfl (by decide) rfl ⟨_, _, rfl, rfl, rfl⟩ ?_ | refine zh rfl rfl rfl rfl rfl (by simp; done) rfl rfl rfl rfl ⟨_, _, rfl, rfl, rfl⟩ ?_ | refine zb rfl rfl ⟨_, _, rfl, rfl, rfl⟩ ?_))
   refine zI hb (by repeat (first | exact zi.nil | refine zi.cons (by exact yj.plain rfl rfl) ?_)) rfl ⟨_, _, rfl, rfl, rfl⟩ ?_
   (repeat (first | refine zd.nil ?_ | refine za rfl rfl rfl ?_ | refine zH rfl rfl rfl rfl ?_))
   exact FW.ret ⟨.inl rfl, zK rfl rfl rfl rfl⟩
  ·exact absurd (of_decide_eq_false h) (by simp)
 ·exact absurd (of_decide_eq_false h) (by simp)
set_option maxHeartbeats 8000000 in
theorem Vb (l : List Int) (a0 a1 a2 b0 b1 b2 : Int) (hl : ∀ x ∈ l, I64 x) (hlen : l.length ≤ 9223372036854775807) (i0 : I64 a0) (i1 : I64 a1) (i2 : I64 a2) (j0 : I64 b0) (j1 : I64 b1) (j2 : I64 b2) : yc Try.prog 4 [.list 1 (l.map zG), .agg [.int .i64 a0, .int .i64 a1, .int .i64 a2], .agg [.int .i64 b0, .int .i64 b1, .int .i64 b2]] .fr (.bool true) := by
 obtain ⟨h, hh⟩ : ∃ h, zc0 l a0 a1 a2 b0 b1 b2 = h := ⟨_, rfl⟩
 have hf := zeu l a0 a1 a2 b0 b1 b2
 have hB := zev l a0 a1 a2 b0 b1 b2 hl hlen i0 i1 i2 j0 j1 j2
 rw [hh] at hf hB
 have hlen60 := hf.len
 have hin := hf.inn
 have hC := Yk h (by omega) hin
 have hE := zch hf
 have hvs := fun o => zdr o
 refine yc.of_body (c := (Zq Try.prog zE zy 137)) ⟨Try.func4, rfl, Try.ntmps4, by kernel_rfl⟩ (by simp [FV.hand]) (by exact Nat.le_of_ble_eq_true rfl) rfl ?_
 change FW _ _ _ ⟨[(0, .list 1 (l.map zG)), (1, .agg [.int .i64 a0, .int .i64 a1, .int .i64 a2]), (2, .agg [.int .i64 b0, .int .i64 b1, .int .i64 b2])], []⟩
 by_cases D : yu h
 ·rw [if_pos D] at hE
  rw [hE, zhP hf D] at hC
  obtain ⟨V, hV⟩ : ∃ V, ziB h = V := ⟨_, rfl⟩
  have hcase : V.cls ≠ 4 ∨ ∃ c, V.cls = 4 ∧ V.arg = c ∧ V.ord = [] ∧ V.ed = Xt h c ∧ Xt h c ≠ [] := by
   by_cases h4 : V.cls = 4
   ·refine .inr ?_
    rw [← hV] at h4 ⊢
    unfold ziB at h4 ⊢
    cases hv : zfw h with
    | none => rw [hv] at h4; exfalso; dsimp only at h4; omega
    | some c =>
     rw [hv] at h4
     dsimp only at h4 ⊢
     refine ⟨c, h4, rfl, ?_⟩
     unfold Vp at h4 ⊢
     cases hf1 : (List.range h.length).find? (UJ h c) with
     | some i => rw [hf1] at h4; exfalso; dsimp only at h4; omega
     | none =>
      rw [hf1] at h4
      dsimp only at h4 ⊢
      cases hf2 : (List.range h.length).find? (Zw h c) with
      | some i => rw [hf2] at h4; exfalso; dsimp only at h4; omega
      | none =>
       rw [hf2] at h4
       dsimp only at h4 ⊢
       by_cases h3 : Xt h c = []
       ·rw [if_pos h3] at h4; exfalso; dsimp only at h4; omega
       ·rw [if_neg h3]; exact ⟨rfl, rfl, h3⟩
   ·exact .inl h4
  rw [hV] at hC
  obtain ⟨k, a, o, ed⟩ := V
  dsimp only [zj7.fv] at hC hcase
  rcases hcase with h4 | ⟨c, rfl, rfl, rfl, rfl, hne⟩
  ·(repeat (first | refine FW.seq ?_ | refine FW.region ?_ | refine zd.nil ?_ | refine ZI rfl rfl rfl rfl rfl rfl rfl ?_ | refine za rfl rfl rfl ?_ | refine zb rfl rfl rfl ?_ | refine zO rfl rfl rfl (by decide) rfl rfl (by simp; done) rfl rfl rfl rfl ?_))
   refine zU hB (by repeat (first | exact zi.nil | refine zi.cons (by exact yj.plain rfl rfl) ?_)) (List.length_map _) rfl rfl rfl ?_
   refine zd.le ?_ (FLe.share 20 rfl rfl (List.length_map _).symm)
   (repeat (first | refine FW.seq ?_ | refine FW.region ?_ | refine zd.nil ?_ | refine za rfl rfl rfl ?_ | refine zb rfl rfl rfl ?_))
   refine xj hC (by repeat (first | exact zi.nil | refine zi.cons (by exact yj.plain rfl rfl) ?_)) rfl rfl ?_
   (repeat (first | refine FW.seq ?_ | refine FW.region ?_ | refine zd.nil ?_ | refine za rfl rfl rfl ?_ | refine zb rfl rfl rfl ?_ | refine zM rfl rfl rfl rfl rfl ?_ | refine zS rfl rfl rfl rfl rfl rfl rfl ?_ | refine zA rfl rfl rfl rfl rfl rfl rfl rfl rfl ?_ | refine xu rfl rfl rfl rfl ?_ | refine zL rfl rfl rfl rfl ?_ | refine zg rfl rfl rfl rfl rfl rfl (by decide) rfl ⟨_, _, rfl, rfl, rfl⟩ ?_ | refine zh rfl rfl rfl rfl rfl (by simp; done) rfl rfl rfl rfl ⟨_, _, rfl, rfl, rfl⟩ ?_ | refine xu rfl rfl rfl ⟨_, _, rfl, rfl, rfl⟩ ?_))
   refine FW.condT (congrArg FV.bool (decide_eq_true h4)) ?_
   (repeat (first | refine FW.seq ?_ | refine FW.region ?_))
   refine zI Zx (by repeat (first | exact zi.nil)) rfl rfl ?_
   (repeat (first | refine zd.nil ?_ | refine za rfl rfl rfl ?_))
   refine FW.ret ⟨.inl rfl, zK rfl rfl rfl rfl⟩
  ·have hze := zfp D hin hne
   obtain ⟨E, hEe⟩ : ∃ E, Xt h a = E := ⟨_, rfl⟩
   rw [hEe] at hC hze
   have hEl : E.length = 1 ∨ E.length = 2 := by
    rcases hze with ⟨e, rfl, _⟩ | ⟨e, f, rfl, _⟩
    ·exact .inl rfl
    ·exact .inr rfl
   have hEk : ∀ e ∈ E, zao h a e := fun e he => by
    rcases hze with ⟨x, rfl, h1, _⟩ | ⟨x, y, rfl, h1, h2, _⟩
    ·rw [List.mem_singleton.1 he]; exact h1
    ·simp only [List.mem_cons, List.not_mem_nil, or_false] at he
     rcases he with rfl | rfl
     ·exact h1
     ·exact h2
   (repeat (first | refine FW.seq ?_ | refine FW.region ?_ | refine zd.nil ?_ | refine ZI rfl rfl rfl rfl rfl rfl rfl ?_ | refine za rfl rfl rfl ?_ | refine zb rfl rfl rfl ?_ | refine zO rfl rfl rfl (by decide) rfl rfl (by simp; done) rfl rfl rfl rfl ?_))
   refine zU hB (by repeat (first | exact zi.nil | refine zi.cons (by exact yj.plain rfl rfl) ?_)) (List.length_map _) rfl rfl rfl ?_
   refine zd.le ?_ (FLe.share 20 rfl rfl (List.length_map _).symm)
   (repeat (first | refine FW.seq ?_ | refine FW.region ?_ | refine zd.nil ?_ | refine za rfl rfl rfl ?_ | refine zb rfl rfl rfl ?_))
   refine xj hC (by repeat (first | exact zi.nil | refine zi.cons (by exact yj.plain rfl rfl) ?_)) rfl rfl ?_
   (repeat (first | refine FW.seq ?_ | refine FW.region ?_ | refine FW.skip ?_ | refine FW.condF rfl ?_ | refine zd.nil ?_ | refine za rfl rfl rfl ?_ | refine zb rfl rfl rfl ?_ | refine zh rfl rfl rfl rfl rfl (by simp; done) rfl rfl rfl rfl rfl ?_ | refine zM rfl rfl rfl rfl rfl ?_ | refine zS rfl rfl rfl rfl rfl rfl rfl ?_ | refine zA rfl rfl rfl rfl rfl rfl rfl rfl rfl ?_ | refine xu rfl rfl rfl rfl ?_ | refine zg rfl rfl rfl rfl rfl rfl (by decide) rfl rfl ?_ | refine zL rfl rfl rfl rfl ?_ | refine zn rfl rfl (by first | exact List.length_map _ | rfl | (simp; done)) rfl rfl ?_ | refine zJ rfl rfl rfl rfl ?_ | refine zg rfl rfl rfl rfl rfl rfl (by decide) rfl ⟨_, _, rfl, rfl, rfl⟩ ?_ | refine zh rfl rfl rfl rfl rfl (by simp; done) rfl rfl rfl rfl ⟨_, _, rfl, rfl, rfl⟩ ?_ | refine xu rfl rfl rfl ⟨_, _, rfl, rfl, rfl⟩ ?_))
   refine zY (fun e => ?_) (fun _ => ?_)
   ·exact absurd (of_decide_eq_true e) (by omega)
   (repeat (first | refine zb rfl rfl rfl ?_ | refine zL rfl rfl rfl rfl ?_ | refine zb rfl rfl ⟨_, _, rfl, rfl, rfl⟩ ?_ | refine zn rfl rfl (by exact List.length_map _) rfl ⟨_, _, rfl, rfl, rfl⟩ ?_ | refine zcD rfl rfl rfl ⟨_, _, rfl, rfl, rfl⟩ ?_))
   refine zY (fun e => ?_) (fun _ => ?_)
   ·exact absurd (of_decide_eq_true e) (by omega)
   (repeat (first | refine FW.seq ?_ | refine FW.region ?_ | refine FW.block ?_ | refine FW.skip ?_ | refine FW.condF rfl ?_ | refine zd.nil ?_ | refine za rfl rfl rfl ?_ | refine zL rfl rfl rfl rfl ?_ | refine zg rfl rfl rfl rfl rfl rfl (by decide) rfl ⟨_, _, rfl, rfl, rfl⟩ ?_ | refine zh rfl rfl rfl rfl rfl (by simp; done) rfl rfl rfl rfl ⟨_, _, rfl, rfl, rfl⟩ ?_ | refine zn rfl rfl (by first | exact List.length_map _ | rfl | (simp; done)) rfl ⟨_, _, rfl, rfl, rfl⟩ ?_ | refine zcD rfl rfl rfl ⟨_, _, rfl, rfl, rfl⟩ ?_))
   refine FW.loop (fun i : Nat => ⟨[(7, .list 8 (h.map OpV.fv)), (8, .ptr 101 0 0 0), (10, .list 3 (E.map rtf)), (11, .int .i64 i)], [(101, ⟨0, .own, 30, 5, [[.int .i64 2, .int .i64 4, .int .i64 a, .list 1 [], .list 3 (E.map rtf)]]⟩)]⟩) (fun i => i ≤ E.length) (fun i => E.length - i) 0 (Nat.zero_le _) ?_ ?_
   ·exact (FLe.conv [⟨101, some 8, 0 + 1, ⟨0, .own, 30, 5, [[.int .i64 2, .int .i64 4, .int .i64 a, .list 1 [], .list 3 (E.map rtf)]]⟩⟩] (by simp) (by simp) rfl (by repeat (first | exact .nil | refine .low rfl ?_)) (by repeat (first | exact .nil | refine .old rfl (by decide) rfl ?_)) (by repeat (first | exact .nil | refine .cons (.plain rfl rfl rfl) ?_ | refine .cons (.ptr rfl (.head _) rfl) ?_)))
   intro i hi
   (repeat (first | refine FW.seq ?_ | refine FW.region ?_ | refine zd.nil ?_ | refine zb rfl rfl rfl ?_ | refine zn rfl rfl (by exact List.length_map _) rfl rfl ?_ | refine zJ rfl rfl rfl rfl ?_))
   refine FW.cond rfl (fun hc => ?_) (fun hc => ?_)
   ·have hlt : i < E.length := by simpa using hc
    have hvd := zdq h a (nth E i) (by omega) (hEk _ (zC hlt))
    (repeat (first | refine FW.seq ?_ | refine FW.block ?_ | refine FW.skip ?_))
    refine FW.drawQ (by kernel_rfl) ?_
    (repeat (first | refine zR rfl rfl rfl ?_ | refine xL rfl rfl rfl rfl rfl (by first | (simp; omega) | (simp; done)) (by first | exact zc (by omega) | rfl) rfl rfl rfl rfl ?_ | refine zcw rfl rfl rfl (by decide) (by first | (simp; omega) | (simp; done)) (by first | exact zc (by omega) | rfl) rfl rfl rfl ?_ | refine Zo rfl rfl rfl rfl rfl rfl (by decide) rfl rfl ?_ | refine yd rfl rfl rfl rfl rfl rfl (by first | (simp; omega) | (simp; done)) rfl rfl ?_))
    refine zgD hvd (by repeat (first | exact zi.nil | refine zi.cons (by exact yj.plain rfl rfl) ?_)) rfl rfl ?_
    (repeat (first | refine zF.nil ?_ | refine zjV rfl rfl rfl ?_))
    refine ⟨by kernel_rfl, ?_⟩
    (repeat (first | refine FW.region ?_ | refine FW.skip ?_ | refine FW.condF rfl ?_ | refine zd.nil ?_ | refine za rfl rfl rfl ?_ | refine zb rfl rfl rfl ?_ | refine zw rfl rfl (by omega) rfl rfl ?_))
    exact ⟨i + 1, by omega, by omega, (FLe.conv [⟨101, some 101, 0, ⟨0, .own, 30, 5, [[.int .i64 2, .int .i64 4, .int .i64 a, .list 1 [], .list 3 (E.map rtf)]]⟩⟩] (by simp) (by simp) rfl (by repeat (first | exact .nil | refine .low rfl ?_)) (by repeat (first | exact .nil | refine .old rfl (by decide) rfl ?_)) (by repeat (first | exact .nil | refine .cons (.plain rfl rfl rfl) ?_ | refine .cons (.ptr rfl (.head _) rfl) ?_)))⟩
   ·have hc : ¬ i < E.length := by simpa using hc
    obtain rfl : i = E.length := by omega
    rcases hze with ⟨⟨p, q⟩, hE0, ⟨k1, k2, _, _, _, _, _⟩, v1, v2⟩ | ⟨⟨p, q⟩, ⟨r, s⟩, hE0, ⟨k1, k2, _, _, _, _, _⟩, ⟨k3, k4, _, _, _, _, _⟩, v1, v2, v3, v4, v5⟩
    ·dsimp only at k1 k2 v1 v2
     have hp := hvs (nth h p)
     have hq := hvs (nth h q)
     rw [v1] at hq
     obtain ⟨x, hx⟩ : ∃ x, ZX (nth h p) = x := ⟨_, rfl⟩
     rw [hx] at hp v2
     have hl1 : E.length = 1 := by rw [hE0]; rfl
     have hla : nth E (E.length - 1) = (p, q) := by rw [hE0]; rfl
     have ht : ((E.length : Int) - 1).toNat = E.length - 1 := by omega
     (repeat (first | refine FW.seq ?_ | refine FW.region ?_ | refine FW.exit ?_ | refine zd.nil ?_ | refine zb rfl rfl rfl ?_ | refine zV rfl rfl rfl (by decide) (by simp; omega) (by exact zc (by omega)) rfl rfl rfl ?_ | refine zS rfl rfl rfl rfl rfl rfl rfl ?_ | refine zA rfl rfl rfl rfl rfl rfl rfl rfl rfl ?_ | refine zn rfl rfl (by first | exact List.length_map _ | (simp; omega)) rfl rfl ?_ | refine zu rfl rfl (by exact (Int.toNat_of_nonneg (by omega)).symm) rfl rfl rfl (by simp; omega) rfl rfl ?_ | refine UA rfl rfl (by omega) rfl rfl ?_))
     rw [ht, hla]
     (repeat (first | refine zh rfl rfl rfl rfl rfl (by first | (simp; omega) | (simp; done)) (by first | exact zc (by omega) | rfl) rfl rfl rfl rfl ?_ | refine zV rfl rfl rfl (by decide) (by first | (simp; omega) | (simp; done)) (by first | exact zc (by omega) | rfl) rfl rfl rfl ?_ | refine zg rfl rfl rfl rfl rfl rfl (by decide) rfl rfl ?_ | refine zu rfl rfl rfl rfl rfl rfl (by first | (simp; omega) | (simp; done)) rfl rfl ?_))
     refine zI hp (by repeat (first | exact zi.nil | refine zi.cons (by exact yj.plain rfl rfl) ?_)) rfl rfl ?_
     (repeat (first | refine FW.seq ?_ | refine FW.region ?_ | refine zd.nil ?_ | refine za rfl rfl rfl ?_ | refine zb rfl rfl rfl ?_ | refine zh rfl rfl rfl rfl rfl (by first | (simp; omega) | (simp; done)) (by first | exact zc (by omega) | rfl) rfl rfl rfl rfl ?_ | refine zV rfl rfl rfl (by decide) (by first | (simp; omega) | (simp; done)) (by first | exact zc (by omega) | rfl) rfl rfl rfl ?_ | refine zg rfl rfl rfl rfl rfl rfl (by decide) rfl rfl ?_ | refine zu rfl rfl rfl rfl rfl rfl (by first | (simp; omega) | (simp; done)) rfl rfl ?_))
     refine zI hq (by repeat (first | exact zi.nil | refine zi.cons (by exact yj.plain rfl rfl) ?_)) rfl rfl ?_
     (repeat (first | refine FW.seq ?_ | refine FW.region ?_ | refine zd.nil ?_ | refine za rfl rfl rfl ?_ | refine zb rfl rfl rfl ?_ | refine zn rfl rfl (by exact List.length_map _) rfl rfl ?_ | refine yq rfl rfl rfl rfl ?_))
     refine FW.condT (congrArg FV.bool (decide_eq_true (by omega))) ?_
     (repeat (first | refine FW.seq ?_ | refine FW.region ?_ | refine zb rfl rfl rfl ?_ | refine zH rfl rfl rfl rfl ?_ | refine yq rfl rfl rfl rfl ?_ | refine xu rfl rfl rfl ⟨_, _, rfl, rfl, rfl⟩ ?_ | refine zb rfl rfl ⟨_, _, rfl, rfl, rfl⟩ ?_))
     refine zY (fun _ => ?_) (fun e => ?_)
     ·skip
      refine zI Zx (by repeat (first | exact zi.nil)) rfl ⟨_, _, rfl, rfl, rfl⟩ ?_
      (repeat (first | refine zd.nil ?_ | refine za rfl rfl rfl ?_ | refine zH rfl rfl rfl rfl ?_))
      refine FW.ret ⟨.inl rfl, zK rfl rfl rfl rfl⟩
     ·exact absurd (of_decide_eq_false e) (fun h => h v2)
    ·dsimp only at k1 k2 k3 k4 v1 v2 v3 v4 v5
     have hp := hvs (nth h p)
     have hq := hvs (nth h q)
     have hr := hvs (nth h r)
     have hs := hvs (nth h s)
     rw [← v1] at hs
     rw [← v2] at hr
     obtain ⟨x, hx⟩ : ∃ x, ZX (nth h p) = x := ⟨_, rfl⟩
     obtain ⟨y, hy⟩ : ∃ y, ZX (nth h q) = y := ⟨_, rfl⟩
     rw [hx] at hp hs v3 v4
     rw [hy] at hq hr v3 v5
     have hl1 : E.length = 2 := by rw [hE0]; rfl
     have hla : nth E (E.length - 1) = (r, s) := by rw [hE0]; rfl
     have hg0 : (E.map rtf).getD 0 [] = rtf (p, q) := by rw [hE0]; rfl
     have ht : ((E.length : Int) - 1).toNat = E.length - 1 := by omega
     (repeat (first | refine FW.seq ?_ | refine FW.region ?_ | refine FW.exit ?_ | refine zd.nil ?_ | refine zb rfl rfl rfl ?_ | refine zV rfl rfl rfl (by decide) (by simp; omega) (by exact zc (by omega)) rfl rfl rfl ?_ | refine zS rfl rfl rfl rfl rfl rfl rfl ?_ | refine zA rfl rfl rfl rfl rfl rfl rfl rfl rfl ?_ | refine zn rfl rfl (by first | exact List.length_map _ | (simp; omega)) rfl rfl ?_ | refine zu rfl rfl (by exact (Int.toNat_of_nonneg (by omega)).symm) rfl rfl rfl (by simp; omega) rfl rfl ?_ | refine UA rfl rfl (by omega) rfl rfl ?_))
     rw [ht, hla]
     (repeat (first | refine zh rfl rfl rfl rfl rfl (by first | (simp; omega) | (simp; done)) (by first | exact zc (by omega) | rfl) rfl rfl rfl rfl ?_ | refine zV rfl rfl rfl (by decide) (by first | (simp; omega) | (simp; done)) (by first | exact zc (by omega) | rfl) rfl rfl rfl ?_ | refine zg rfl rfl rfl rfl rfl rfl (by decide) rfl rfl ?_ | refine zu rfl rfl rfl rfl rfl rfl (by first | (simp; omega) | (simp; done)) rfl rfl ?_))
     refine zI hr (by repeat (first | exact zi.nil | refine zi.cons (by exact yj.plain rfl rfl) ?_)) rfl rfl ?_
     (repeat (first | refine FW.seq ?_ | refine FW.region ?_ | refine zd.nil ?_ | refine za rfl rfl rfl ?_ | refine zb rfl rfl rfl ?_ | refine zh rfl rfl rfl rfl rfl (by first | (simp; omega) | (simp; done)) (by first | exact zc (by omega) | rfl) rfl rfl rfl rfl ?_ | refine zV rfl rfl rfl (by decide) (by first | (simp; omega) | (simp; done)) (by first | exact zc (by omega) | rfl) rfl rfl rfl ?_ | refine zg rfl rfl rfl rfl rfl rfl (by decide) rfl rfl ?_ | refine zu rfl rfl rfl rfl rfl rfl (by first | (simp; omega) | (simp; done)) rfl rfl ?_))
     refine zI hs (by repeat (first | exact zi.nil | refine zi.cons (by exact yj.plain rfl rfl) ?_)) rfl rfl ?_
     (repeat (first | refine FW.seq ?_ | refine FW.region ?_ | refine zd.nil ?_ | refine za rfl rfl rfl ?_ | refine zb rfl rfl rfl ?_ | refine zn rfl rfl (by exact List.length_map _) rfl rfl ?_ | refine yq rfl rfl rfl rfl ?_))
     refine FW.condF (congrArg FV.bool (decide_eq_false (by omega))) ?_
     (repeat (first | refine FW.seq ?_ | refine FW.region ?_ | refine FW.skip ?_ | refine zb rfl rfl rfl ?_ | refine yh rfl rfl rfl rfl rfl rfl rfl ?_ | refine zu rfl rfl rfl rfl rfl rfl (by simp; omega) rfl rfl ?_))
     refine zD rfl rfl rfl (by show 0 < (E.map rtf).length; rw [List.length_map]; omega) hg0 rfl rfl rfl rfl ?_
     (repeat (first | refine zV rfl rfl rfl (by decide) (by simp; omega) (by first | exact zc (by omega) | rfl) rfl rfl rfl ?_ | refine zu rfl rfl rfl rfl rfl rfl (by simp; omega) rfl rfl ?_))
     refine zI hp (by repeat (first | exact zi.nil | refine zi.cons (by exact yj.plain rfl rfl) ?_)) rfl rfl ?_
     (repeat (first | refine FW.seq ?_ | refine FW.region ?_ | refine zd.nil ?_ | refine za rfl rfl rfl ?_ | refine zb rfl rfl rfl ?_ | refine yh rfl rfl rfl rfl rfl rfl rfl ?_ | refine zu rfl rfl rfl rfl rfl rfl (by simp; omega) rfl rfl ?_))
     refine zD rfl rfl rfl (by show 0 < (E.map rtf).length; rw [List.length_map]; omega) hg0 rfl rfl rfl rfl ?_
     (repeat (first | refine zV rfl rfl rfl (by decide) (by simp; omega) (by first | exact zc (by omega) | rfl) rfl rfl rfl ?_ | refine zu rfl rfl rfl rfl rfl rfl (by simp; omega) rfl rfl ?_))
     refine zI hq (by repeat (first | exact zi.nil | refine zi.cons (by exact yj.plain rfl rfl) ?_)) rfl rfl ?_
     (repeat (first | refine FW.seq ?_ | refine FW.region ?_ | refine zd.nil ?_ | refine za rfl rfl rfl ?_ | refine zb rfl rfl rfl ?_ | refine yq rfl rfl rfl rfl ?_))
     refine zY (fun _ => ?_) (fun e => ?_)
     ·(repeat (first | refine zb rfl rfl rfl ?_ | refine zH rfl rfl rfl rfl ?_ | refine zb rfl rfl ⟨_, _, rfl, rfl, rfl⟩ ?_ | refine yq rfl rfl rfl ⟨_, _, rfl, rfl, rfl⟩ ?_))
      refine zY (fun _ => ?_) (fun e => ?_)
      ·(repeat (first | refine zb rfl rfl rfl ?_ | refine zH rfl rfl rfl rfl ?_ | refine xu rfl rfl rfl ⟨_, _, rfl, rfl, rfl⟩ ?_ | refine zb rfl rfl ⟨_, _, rfl, rfl, rfl⟩ ?_))
       refine zY (fun _ => ?_) (fun e => ?_)
       ·(repeat (first | refine zb rfl rfl rfl ?_ | refine zH rfl rfl rfl rfl ?_ | refine xu rfl rfl rfl ⟨_, _, rfl, rfl, rfl⟩ ?_ | refine zb rfl rfl ⟨_, _, rfl, rfl, rfl⟩ ?_))
        refine zY (fun _ => ?_) (fun e => ?_)
        ·(repeat (first | refine zb rfl rfl rfl ?_ | refine zH rfl rfl rfl rfl ?_ | refine xu rfl rfl rfl ⟨_, _, rfl, rfl, rfl⟩ ?_ | refine zb rfl rfl ⟨_, _, rfl, rfl, rfl⟩ ?_))
         refine zY (fun _ => ?_) (fun e => ?_)
         ·skip
          refine zI Zx (by repeat (first | exact zi.nil)) rfl ⟨_, _, rfl, rfl, rfl⟩ ?_
          (repeat (first | refine zd.nil ?_ | refine za rfl rfl rfl ?_ | refine zH rfl rfl rfl rfl ?_))
          refine FW.ret ⟨.inl rfl, zK rfl rfl rfl rfl⟩
         ·exact absurd (of_decide_eq_false e) (fun h => h v5)
        ·exact absurd (of_decide_eq_false e) (fun h => h v4)
       ·exact absurd (of_decide_eq_false e) (fun h => h v3)
      ·exact absurd (of_decide_eq_false e) (fun h => h rfl)
     ·exact absurd (of_decide_eq_false e) (fun h => h rfl)
 ·rw [if_neg D] at hE
  rw [hE, show zhe h = noV by unfold zhe; rw [hE, if_pos (by decide)]] at hC
  unfold noV at hC
  (repeat (first | refine FW.seq ?_ | refine FW.region ?_ | refine zd.nil ?_ | refine ZI rfl rfl rfl rfl rfl rfl rfl ?_ | refine za rfl rfl rfl ?_ | refine zb rfl rfl rfl ?_ | refine zO rfl rfl rfl (by decide) rfl rfl (by simp; done) rfl rfl rfl rfl ?_))
  refine zU hB (by repeat (first | exact zi.nil | refine zi.cons (by exact yj.plain rfl rfl) ?_)) (List.length_map _) rfl rfl rfl ?_
  refine zd.le ?_ (FLe.share 20 rfl rfl (List.length_map _).symm)
  (repeat (first | refine FW.seq ?_ | refine FW.region ?_ | refine zd.nil ?_ | refine za rfl rfl rfl ?_ | refine zb rfl rfl rfl ?_))
  refine xj hC (by repeat (first | exact zi.nil | refine zi.cons (by exact yj.plain rfl rfl) ?_)) rfl rfl ?_
  (repeat (first | refine FW.seq ?_ | refine FW.region ?_ | refine FW.condT rfl ?_ | refine zd.nil ?_ | refine za rfl rfl rfl ?_ | refine zb rfl rfl rfl ?_ | refine zM rfl rfl rfl rfl rfl ?_ | refine zS rfl rfl rfl rfl rfl rfl rfl ?_ | refine zA rfl rfl rfl rfl rfl rfl rfl rfl rfl ?_ | refine xu rfl rfl rfl rfl ?_ | refine zH rfl rfl rfl rfl ?_ | refine yz rfl rfl ⟨_, _, rfl, rfl, rfl⟩ ?_))
  refine zI Zx (by repeat (first | exact zi.nil)) rfl rfl ?_
  (repeat (first | refine zd.nil ?_ | refine za rfl rfl rfl ?_))
  refine FW.ret ⟨.inl rfl, zK rfl rfl rfl rfl⟩
end Go.Proofs.Ytbeebjdnapkhhaa
