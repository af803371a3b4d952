/-
  simprooflaw21.LinearChecks answers true for every input (walked on plain values).
-/
import Derived.Test.YtbeebjdnapkhhaaZFmLBent
import Derived.Test.YtbeebjdnapkhhaaZFmLv21
import Derived.Test.YtbeebjdnapkhhaaZFmRf4
namespace Go.Proofs.Ytbeebjdnapkhhaa
set_option linter.unusedVariables false
open Go.RowKit

theorem zcA {l : List OpV} (h : zfR false l) : zda l = if yn l then 0 else 22 := by
 unfold zda
 rw [if_neg (by simp [h.wf.check])]
theorem zil {l : List OpV} (h : zfR false l) (D : yn l) : zhK l = (zjE l).fv := by
 unfold zhK
 rw [zcA h, if_pos D, if_neg (by decide)]
theorem zhD {l : List OpV} (D : yn l) (hin : ∀ o ∈ l, zak o) {c : Int} (hc : (Xo l c).cls ≠ 0) :
  (∃ i : Nat, i < l.length ∧ Xo l c = ⟨2, [i], []⟩ ∧ WO l c = (2, (i : Int))) ∨
  (∃ i w : Nat, i < l.length ∧ Xo l c = ⟨3, [i, w], []⟩ ∧ WO l c = (3, (i : Int)) ∧ zhG l c (nth l i).res = (w : Int)) ∨
  (∃ E, Xo l c = ⟨4, [], E⟩ ∧ WO l c = (4, -1)) := by
 have hk := zeo (c := c) D hin
 unfold Xo at hc hk ⊢
 unfold WO at hk ⊢
 cases h1 : (List.range l.length).find? (Xz l c) with
 | some i =>
  rw [List.find?_range_eq_some] at h1
  exact .inl ⟨i, List.mem_range.1 h1.2.1, rfl, rfl⟩
 | none =>
  rw [h1] at hc hk
  dsimp only at hc hk ⊢
  cases h2 : (List.range l.length).find? (xz l c) with
  | some i =>
   rw [List.find?_range_eq_some] at h2
   refine .inr (.inl ⟨i, zjT l i, List.mem_range.1 h2.2.1, rfl, rfl, ?_⟩)
   have he := h2.1
   unfold xz Vh at he
   simp only [Bool.and_eq_true, decide_eq_true_eq] at he
   obtain ⟨hkey, _, _, _, he⟩ := he
   unfold zhG zjT
   rw [hkey] at he ⊢
   cases hw : wIx l c (nth l i).res with
   | none => rw [hw] at he; cases he
   | some w => rfl
  | none =>
   rw [h2] at hc hk
   dsimp only at hc hk ⊢
   by_cases h3 : VW l c = []
   ·rw [if_pos h3] at hc; exact absurd rfl hc
   ·rw [if_neg h3] at hk ⊢
    dsimp only at hk
    refine .inr (.inr ⟨_, rfl, ?_⟩)
    by_cases h4 : Xe l c = true
    ·rw [if_pos h4]
    ·rw [if_neg h4] at hk; exact absurd hk (by decide)
set_option maxHeartbeats 8000000 in
theorem WQ (l : List Int) (a0 a1 a2 b0 b1 b2 : Int) (hl : ∀ x ∈ l, I64 x) (hlen : l.length ≤ 9223372036854775807) (i0 : I64 a0) (i1 : I64 a1) (i2 : I64 a2) (j0 : I64 b0) (j1 : I64 b1) (j2 : I64 b2) : yd Try.prog 3 [.list 1 (l.map zO), .agg [.int .i64 a0, .int .i64 a1, .int .i64 a2], .agg [.int .i64 b0, .int .i64 b1, .int .i64 b2]] .fr (.bool true) := by
 obtain ⟨h, hh⟩ : ∃ h, zdi l a0 a1 a2 b0 b1 b2 = h := ⟨_, rfl⟩
 have hf := zeR l a0 a1 a2 b0 b1 b2
 have hB := zeS l a0 a1 a2 b0 b1 b2 hl hlen i0 i1 i2 j0 j1 j2
 rw [hh] at hf hB
 have hlen60 := hf.len
 have hin := hf.inn
 have hC := Yw h (by omega) hin
 have hE := zcA hf
 have hD := zaE h (by omega)
 have hK := zdK h (by omega)
 refine yd.of_body (c := (xW Try.prog zJ zy 116)) ⟨Try.func3, rfl, Try.ntmps3, by kernel_rfl⟩ (by simp [FV.hand]) (by exact Nat.le_of_ble_eq_true rfl) rfl ?_
 change FW _ _ _ ⟨[(0, .list 1 (l.map zO)), (1, .agg [.int .i64 a0, .int .i64 a1, .int .i64 a2]), (2, .agg [.int .i64 b0, .int .i64 b1, .int .i64 b2])], []⟩
 by_cases D : yn h
 ·rw [if_pos D] at hE
  rw [hE, zil hf D] at hC
  rw [decide_eq_true D] at hD
  rw [zf9 D hin] at hK
  unfold zjE at hC
  cases hv : zc5 h with
  | none =>
   rw [hv] at hC hK
   dsimp only [zf8, zka.fv] at hC hK
   (repeat (first | refine FW.seq ?_ | refine FW.region ?_ | refine zd.nil ?_ | refine ZA rfl rfl rfl rfl rfl rfl rfl ?_ | refine za rfl rfl rfl ?_ | refine zb rfl rfl rfl ?_ | refine zR rfl rfl rfl (by decide) rfl rfl (by simp; done) rfl rfl rfl rfl ?_))
   refine zZ hB (by repeat (first | exact zg.nil | refine zg.cons (by exact yc.plain rfl rfl) ?_)) (List.length_map _) rfl rfl rfl ?_
   refine zd.le ?_ (FLe.share 18 rfl rfl (List.length_map _).symm)
   (repeat (first | refine FW.seq ?_ | refine FW.region ?_ | refine zd.nil ?_ | refine za rfl rfl rfl ?_ | refine zb rfl rfl rfl ?_))
   refine yT hC (by repeat (first | exact zg.nil | refine zg.cons (by exact yc.plain rfl rfl) ?_)) rfl rfl ?_
   (repeat (first | refine FW.seq ?_ | refine FW.region ?_ | refine zd.nil ?_ | refine za rfl rfl rfl ?_ | refine zb rfl rfl rfl ?_ | refine zL rfl rfl rfl rfl rfl ?_ | refine zY rfl rfl rfl rfl rfl rfl rfl ?_ | refine zE rfl rfl rfl rfl rfl rfl rfl rfl rfl ?_))
   refine zD hD (by repeat (first | exact zg.nil | refine zg.cons (by exact yc.plain rfl rfl) ?_)) rfl rfl ?_
   (repeat (first | refine FW.seq ?_ | refine FW.region ?_ | refine FW.skip ?_ | refine FW.condF rfl ?_ | refine zd.nil ?_ | refine za rfl rfl rfl ?_ | refine zb rfl rfl rfl ?_ | refine xn rfl rfl rfl ?_))
   refine zD hK (by repeat (first | exact zg.nil | refine zg.cons (by exact yc.plain rfl rfl) ?_)) rfl rfl ?_
   (repeat (first | refine FW.seq ?_ | refine FW.region ?_ | refine FW.skip ?_ | refine FW.condF rfl ?_ | refine zd.nil ?_ | refine za rfl rfl rfl ?_ | refine zb rfl rfl rfl ?_ | refine zL rfl rfl rfl rfl rfl ?_ | refine zV rfl rfl rfl rfl ?_ | refine zH rfl rfl rfl rfl ?_ | refine yX rfl rfl rfl rfl ?_ | refine zi rfl rfl rfl rfl rfl rfl (by decide) rfl ⟨_, _, rfl, rfl, rfl⟩ ?_ | refine zm rfl rfl rfl rfl rfl (by simp; done) rfl rfl rfl rfl ⟨_, _, rfl, rfl, rfl⟩ ?_ | refine yX rfl rfl rfl ⟨_, _, rfl, rfl, rfl⟩ ?_ | refine zb rfl rfl ⟨_, _, rfl, rfl, rfl⟩ ?_))
   refine zD Zb (by repeat (first | exact zg.nil)) rfl rfl ?_
   (repeat (first | refine zd.nil ?_ | refine za rfl rfl rfl ?_))
   refine FW.ret ⟨.inl rfl, zA rfl rfl rfl rfl⟩
  | some c =>
   have hcls : (Xo h c).cls ≠ 0 := by
    unfold zc5 at hv
    simpa using List.find?_some hv
   rw [hv] at hC hK
   dsimp only [zf8, zka.fv] at hC hK
   rcases zhD D hin hcls with ⟨i, hi, e1, e2⟩ | ⟨i, w, hi, e1, e2, hw⟩ | ⟨E, e1, e2⟩
   ·rw [e1] at hC
    rw [e2] at hK
    dsimp only at hC hK
    have hS := Yz [(i : Int)] [(i : Int)] (by simp) (by simp)
    rw [decide_eq_true rfl] at hS
    (repeat (first | refine FW.seq ?_ | refine FW.region ?_ | refine zd.nil ?_ | refine ZA rfl rfl rfl rfl rfl rfl rfl ?_ | refine za rfl rfl rfl ?_ | refine zb rfl rfl rfl ?_ | refine zR rfl rfl rfl (by decide) rfl rfl (by simp; done) rfl rfl rfl rfl ?_))
    refine zZ hB (by repeat (first | exact zg.nil | refine zg.cons (by exact yc.plain rfl rfl) ?_)) (List.length_map _) rfl rfl rfl ?_
    refine zd.le ?_ (FLe.share 18 rfl rfl (List.length_map _).symm)
    (repeat (first | refine FW.seq ?_ | refine FW.region ?_ | refine zd.nil ?_ | refine za rfl rfl rfl ?_ | refine zb rfl rfl rfl ?_))
    refine yT hC (by repeat (first | exact zg.nil | refine zg.cons (by exact yc.plain rfl rfl) ?_)) rfl rfl ?_
    (repeat (first | refine FW.seq ?_ | refine FW.region ?_ | refine zd.nil ?_ | refine za rfl rfl rfl ?_ | refine zb rfl rfl rfl ?_ | refine zL rfl rfl rfl rfl rfl ?_ | refine zY rfl rfl rfl rfl rfl rfl rfl ?_ | refine zE rfl rfl rfl rfl rfl rfl rfl rfl rfl ?_))
    refine zD hD (by repeat (first | exact zg.nil | refine zg.cons (by exact yc.plain rfl rfl) ?_)) rfl rfl ?_
    (repeat (first | refine FW.seq ?_ | refine FW.region ?_ | refine FW.skip ?_ | refine FW.condF rfl ?_ | refine zd.nil ?_ | refine za rfl rfl rfl ?_ | refine zb rfl rfl rfl ?_ | refine xn rfl rfl rfl ?_))
    refine zD hK (by repeat (first | exact zg.nil | refine zg.cons (by exact yc.plain rfl rfl) ?_)) rfl rfl ?_
    (repeat (first | refine FW.seq ?_ | refine FW.region ?_ | refine zd.nil ?_ | refine za rfl rfl rfl ?_ | refine zb rfl rfl rfl ?_ | refine zL rfl rfl rfl rfl rfl ?_ | refine zH rfl rfl rfl rfl ?_ | refine yX rfl rfl rfl rfl ?_ | refine zi rfl rfl rfl rfl rfl rfl (by decide) rfl ⟨_, _, rfl, rfl, rfl⟩ ?_ | refine zm rfl rfl rfl rfl rfl (by simp; done) rfl rfl rfl rfl ⟨_, _, rfl, rfl, rfl⟩ ?_ | refine yX rfl rfl rfl ⟨_, _, rfl, rfl, rfl⟩ ?_ | refine zb rfl rfl ⟨_, _, rfl, rfl, rfl⟩ ?_))
    refine FW.cond rfl (fun e => absurd e (by simp)) (fun _ => ?_)
    (repeat (first | refine FW.seq ?_ | refine FW.region ?_ | refine FW.skip ?_ | refine FW.condT rfl ?_ | refine zd.nil ?_ | refine zb rfl rfl rfl ?_ | refine zm rfl rfl rfl rfl rfl (by simp; done) rfl rfl rfl rfl rfl ?_ | refine zV rfl rfl rfl rfl ?_ | refine zi rfl rfl rfl rfl rfl rfl (by decide) rfl rfl ?_ | refine yM rfl rfl rfl rfl rfl rfl rfl rfl ?_))
    refine zD hS (by repeat (first | exact zg.nil | refine zg.cons (by first | exact yc.plain rfl rfl | exact yc.own rfl rfl (by decide) (by first | exact (fun _ => rfl) | (intro h; cases h)) (by first | rfl | (simp; done) | (congr 1; omega) | (simp; omega) | (simp [List.take_of_length_le]; done) | (refine congrArg (FV.int .i64) ?_; omega))) ?_)) rfl rfl ?_
    (repeat (first | refine zb rfl rfl rfl ?_ | refine zC rfl rfl rfl rfl ?_ | refine zi rfl rfl rfl rfl rfl rfl (by decide) rfl ⟨_, _, rfl, rfl, rfl⟩ ?_ | refine zm rfl rfl rfl rfl rfl (by simp; done) rfl rfl rfl rfl ⟨_, _, rfl, rfl, rfl⟩ ?_ | refine zV rfl rfl rfl ⟨_, _, rfl, rfl, rfl⟩ ?_ | refine zt rfl rfl (by first | exact List.length_map _ | rfl | (simp; done)) rfl ⟨_, _, rfl, rfl, rfl⟩ ?_))
    refine zD Zb (by repeat (first | exact zg.nil)) rfl ⟨_, _, rfl, rfl, rfl⟩ ?_
    (repeat (first | refine zd.nil ?_ | refine za rfl rfl rfl ?_ | refine zC rfl rfl rfl rfl ?_))
    refine FW.ret ⟨.inl rfl, zA rfl rfl rfl rfl⟩
   ·rw [e1] at hC
    rw [e2] at hK
    dsimp only at hC hK
    have hS := Yz [(i : Int), (w : Int)] [(i : Int), (w : Int)] (by simp) (by simp)
    rw [decide_eq_true rfl] at hS
    have hW := YV h c (nth h i).res (by omega)
    rw [hw] at hW
    (repeat (first | refine FW.seq ?_ | refine FW.region ?_ | refine zd.nil ?_ | refine ZA rfl rfl rfl rfl rfl rfl rfl ?_ | refine za rfl rfl rfl ?_ | refine zb rfl rfl rfl ?_ | refine zR rfl rfl rfl (by decide) rfl rfl (by simp; done) rfl rfl rfl rfl ?_))
    refine zZ hB (by repeat (first | exact zg.nil | refine zg.cons (by exact yc.plain rfl rfl) ?_)) (List.length_map _) rfl rfl rfl ?_
    refine zd.le ?_ (FLe.share 18 rfl rfl (List.length_map _).symm)
    (repeat (first | refine FW.seq ?_ | refine FW.region ?_ | refine zd.nil ?_ | refine za rfl rfl rfl ?_ | refine zb rfl rfl rfl ?_))
    refine yT hC (by repeat (first | exact zg.nil | refine zg.cons (by exact yc.plain rfl rfl) ?_)) rfl rfl ?_
    (repeat (first | refine FW.seq ?_ | refine FW.region ?_ | refine zd.nil ?_ | refine za rfl rfl rfl ?_ | refine zb rfl rfl rfl ?_ | refine zL rfl rfl rfl rfl rfl ?_ | refine zY rfl rfl rfl rfl rfl rfl rfl ?_ | refine zE rfl rfl rfl rfl rfl rfl rfl rfl rfl ?_))
    refine zD hD (by repeat (first | exact zg.nil | refine zg.cons (by exact yc.plain rfl rfl) ?_)) rfl rfl ?_
    (repeat (first | refine FW.seq ?_ | refine FW.region ?_ | refine FW.skip ?_ | refine FW.condF rfl ?_ | refine zd.nil ?_ | refine za rfl rfl rfl ?_ | refine zb rfl rfl rfl ?_ | refine xn rfl rfl rfl ?_))
    refine zD hK (by repeat (first | exact zg.nil | refine zg.cons (by exact yc.plain rfl rfl) ?_)) rfl rfl ?_
    (repeat (first | refine FW.seq ?_ | refine FW.region ?_ | refine zd.nil ?_ | refine za rfl rfl rfl ?_ | refine zb rfl rfl rfl ?_ | refine zL rfl rfl rfl rfl rfl ?_ | refine zH rfl rfl rfl rfl ?_ | refine yX rfl rfl rfl rfl ?_ | refine zi rfl rfl rfl rfl rfl rfl (by decide) rfl ⟨_, _, rfl, rfl, rfl⟩ ?_ | refine zm rfl rfl rfl rfl rfl (by simp; done) rfl rfl rfl rfl ⟨_, _, rfl, rfl, rfl⟩ ?_ | refine yX rfl rfl rfl ⟨_, _, rfl, rfl, rfl⟩ ?_ | refine zb rfl rfl ⟨_, _, rfl, rfl, rfl⟩ ?_))
    refine FW.cond rfl (fun e => absurd e (by simp)) (fun _ => ?_)
    (repeat (first | refine FW.seq ?_ | refine FW.region ?_ | refine FW.skip ?_ | refine FW.condT rfl ?_ | refine FW.condF rfl ?_ | refine zd.nil ?_ | refine zb rfl rfl rfl ?_ | refine zq rfl rfl rfl (by simp; omega) (by first | exact zc (by omega) | rfl) rfl rfl rfl rfl ?_ | refine zV rfl rfl rfl rfl ?_ | refine zI rfl rfl rfl rfl rfl rfl rfl ?_ | refine zj rfl rfl rfl rfl rfl rfl (by simp; omega) rfl rfl ?_))
    refine zD hW (by repeat (first | exact zg.nil | refine zg.cons (by exact yc.plain rfl rfl) ?_)) rfl rfl ?_
    (repeat (first | refine FW.seq ?_ | refine FW.region ?_ | refine zd.nil ?_ | refine za rfl rfl rfl ?_ | refine zb rfl rfl rfl ?_ | refine zm rfl rfl rfl rfl rfl (by simp; done) rfl rfl rfl rfl rfl ?_ | refine zi rfl rfl rfl rfl rfl rfl (by decide) rfl rfl ?_))
    refine YY (es := [(i : Int), (w : Int)].map zO) rfl rfl rfl (by refine ZE.int rfl rfl ?_; refine ZE.int rfl rfl ?_; exact ZE.nil) rfl rfl rfl rfl rfl rfl ?_
    skip
    refine zD hS (by repeat (first | exact zg.nil | refine zg.cons (by first | exact yc.plain rfl rfl | exact yc.own rfl rfl (by decide) (by first | exact (fun _ => rfl) | (intro h; cases h)) (by first | rfl | (simp; done) | (congr 1; omega) | (simp; omega) | (simp [List.take_of_length_le]; done) | (refine congrArg (FV.int .i64) ?_; omega))) ?_)) rfl rfl ?_
    (repeat (first | refine zb rfl rfl rfl ?_ | refine zC rfl rfl rfl rfl ?_ | refine zi rfl rfl rfl rfl rfl rfl (by decide) rfl ⟨_, _, rfl, rfl, rfl⟩ ?_ | refine zm rfl rfl rfl rfl rfl (by simp; done) rfl rfl rfl rfl ⟨_, _, rfl, rfl, rfl⟩ ?_ | refine zV rfl rfl rfl ⟨_, _, rfl, rfl, rfl⟩ ?_ | refine zt rfl rfl (by first | exact List.length_map _ | rfl | (simp; done)) rfl ⟨_, _, rfl, rfl, rfl⟩ ?_))
    refine zD Zb (by repeat (first | exact zg.nil)) rfl ⟨_, _, rfl, rfl, rfl⟩ ?_
    (repeat (first | refine zd.nil ?_ | refine za rfl rfl rfl ?_ | refine zC rfl rfl rfl rfl ?_))
    refine FW.ret ⟨.inl rfl, zA rfl rfl rfl rfl⟩
   ·rw [e1] at hC
    rw [e2] at hK
    dsimp only at hC hK
    (repeat (first | refine FW.seq ?_ | refine FW.region ?_ | refine zd.nil ?_ | refine ZA rfl rfl rfl rfl rfl rfl rfl ?_ | refine za rfl rfl rfl ?_ | refine zb rfl rfl rfl ?_ | refine zR rfl rfl rfl (by decide) rfl rfl (by simp; done) rfl rfl rfl rfl ?_))
    refine zZ hB (by repeat (first | exact zg.nil | refine zg.cons (by exact yc.plain rfl rfl) ?_)) (List.length_map _) rfl rfl rfl ?_
    refine zd.le ?_ (FLe.share 18 rfl rfl (List.length_map _).symm)
    (repeat (first | refine FW.seq ?_ | refine FW.region ?_ | refine zd.nil ?_ | refine za rfl rfl rfl ?_ | refine zb rfl rfl rfl ?_))
    refine yT hC (by repeat (first | exact zg.nil | refine zg.cons (by exact yc.plain rfl rfl) ?_)) rfl rfl ?_
    (repeat (first | refine FW.seq ?_ | refine FW.region ?_ | refine zd.nil ?_ | refine za rfl rfl rfl ?_ | refine zb rfl rfl rfl ?_ | refine zL rfl rfl rfl rfl rfl ?_ | refine zY rfl rfl rfl rfl rfl rfl rfl ?_ | refine zE rfl rfl rfl rfl rfl rfl rfl rfl rfl ?_))
    refine zD hD (by repeat (first | exact zg.nil | refine zg.cons (by exact yc.plain rfl rfl) ?_)) rfl rfl ?_
    (repeat (first | refine FW.seq ?_ | refine FW.region ?_ | refine FW.skip ?_ | refine FW.condF rfl ?_ | refine zd.nil ?_ | refine za rfl rfl rfl ?_ | refine zb rfl rfl rfl ?_ | refine xn rfl rfl rfl ?_))
    refine zD hK (by repeat (first | exact zg.nil | refine zg.cons (by exact yc.plain rfl rfl) ?_)) rfl rfl ?_
    (repeat (first | refine FW.seq ?_ | refine FW.region ?_ | refine zd.nil ?_ | refine za rfl rfl rfl ?_ | refine zb rfl rfl rfl ?_ | refine zL rfl rfl rfl rfl rfl ?_ | refine zH rfl rfl rfl rfl ?_ | refine yX rfl rfl rfl rfl ?_ | refine zi rfl rfl rfl rfl rfl rfl (by decide) rfl ⟨_, _, rfl, rfl, rfl⟩ ?_ | refine zm rfl rfl rfl rfl rfl (by simp; done) rfl rfl rfl rfl ⟨_, _, rfl, rfl, rfl⟩ ?_ | refine yX rfl rfl rfl ⟨_, _, rfl, rfl, rfl⟩ ?_ | refine zb rfl rfl ⟨_, _, rfl, rfl, rfl⟩ ?_))
    refine FW.cond rfl (fun e => absurd e (by simp)) (fun _ => ?_)
    (repeat (first | refine FW.seq ?_ | refine FW.region ?_ | refine FW.skip ?_ | refine FW.condF rfl ?_ | refine zd.nil ?_ | refine zb rfl rfl rfl ?_ | refine zV rfl rfl rfl rfl ?_))
    refine zD Zb (by repeat (first | exact zg.nil)) rfl rfl ?_
    (repeat (first | refine zd.nil ?_ | refine za rfl rfl rfl ?_))
    refine FW.ret ⟨.inl rfl, zA rfl rfl rfl rfl⟩
 ·rw [if_neg D] at hE
  rw [hE, show zhK h = noV by unfold zhK; rw [hE, if_pos (by decide)]] at hC
  rw [decide_eq_false D] at hD
  unfold noV at hC
  (repeat (first | refine FW.seq ?_ | refine FW.region ?_ | refine zd.nil ?_ | refine ZA rfl rfl rfl rfl rfl rfl rfl ?_ | refine za rfl rfl rfl ?_ | refine zb rfl rfl rfl ?_ | refine zR rfl rfl rfl (by decide) rfl rfl (by simp; done) rfl rfl rfl rfl ?_))
  refine zZ hB (by repeat (first | exact zg.nil | refine zg.cons (by exact yc.plain rfl rfl) ?_)) (List.length_map _) rfl rfl rfl ?_
  refine zd.le ?_ (FLe.share 18 rfl rfl (List.length_map _).symm)
  (repeat (first | refine FW.seq ?_ | refine FW.region ?_ | refine zd.nil ?_ | refine za rfl rfl rfl ?_ | refine zb rfl rfl rfl ?_))
  refine yT hC (by repeat (first | exact zg.nil | refine zg.cons (by exact yc.plain rfl rfl) ?_)) rfl rfl ?_
  (repeat (first | refine FW.seq ?_ | refine FW.region ?_ | refine zd.nil ?_ | refine za rfl rfl rfl ?_ | refine zb rfl rfl rfl ?_ | refine zL rfl rfl rfl rfl rfl ?_ | refine zY rfl rfl rfl rfl rfl rfl rfl ?_ | refine zE rfl rfl rfl rfl rfl rfl rfl rfl rfl ?_))
  refine zD hD (by repeat (first | exact zg.nil | refine zg.cons (by exact yc.plain rfl rfl) ?_)) rfl rfl ?_
  (repeat (first | refine FW.seq ?_ | refine FW.region ?_ | refine FW.condT rfl ?_ | refine zd.nil ?_ | refine za rfl rfl rfl ?_ | refine zb rfl rfl rfl ?_ | refine xn rfl rfl rfl ?_ | refine zV rfl rfl rfl rfl ?_ | refine zC rfl rfl rfl rfl ?_ | refine zi rfl rfl rfl rfl rfl rfl (by decide) rfl ⟨_, _, rfl, rfl, rfl⟩ ?_ | refine zm rfl rfl rfl rfl rfl (by simp; done) rfl rfl rfl rfl ⟨_, _, rfl, rfl, rfl⟩ ?_ | refine zV rfl rfl rfl ⟨_, _, rfl, rfl, rfl⟩ ?_ | refine zt rfl rfl (by first | rfl | (simp; done)) rfl ⟨_, _, rfl, rfl, rfl⟩ ?_))
  refine zD Zb (by repeat (first | exact zg.nil)) rfl ⟨_, _, rfl, rfl, rfl⟩ ?_
  (repeat (first | refine zd.nil ?_ | refine za rfl rfl rfl ?_ | refine zC rfl rfl rfl rfl ?_))
  refine FW.ret ⟨.inl rfl, zA rfl rfl rfl rfl⟩
end Go.Proofs.Ytbeebjdnapkhhaa
